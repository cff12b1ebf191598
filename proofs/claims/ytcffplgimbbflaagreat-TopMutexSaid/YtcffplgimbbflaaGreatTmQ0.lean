/- TopTimes answers true whatever its inputs are: no condition. -/
import Derived.Test.YtcffplgimbbflaaGreatProg
import Derived.WalkKit
import Derived.OneCell
import Derived.Deep.Draws
import Derived.Deep.OwnRows
import Derived.Deep.QuietTactic
import Derived.BigQuiet
import Derived.Outline
import Derived.Lib.Hide
import Derived.BigRegion
import Derived.Deep.RegionHeld3
import Derived.Deep.RegionLaw
import Derived.StillTailTactics
import Derived.ProofKit
import Derived.OpenShut
import Derived.ShutString
import Derived.ChangeOld
import Derived.Below
import Derived.Deep.Slices
import Derived.IntWalk
import Derived.LaidEqlPtr
import Derived.WalkSpells
import Derived.Laws.Rows
import Derived.Deep.MidRow
import Derived.Lib.SliceRun
import Derived.Maps.OwnSet
import Derived.Maps.OwnOps
import Derived.Laws.OwnMore
set_option linter.unusedVariables false
set_option linter.unusedSimpArgs false
namespace Go.Proofs.YtcffplgimbbflaaGreat
open Go.RowKit
set_option maxRecDepth 100000
/-- Of what was there nothing has turned but in blocks of S. -/
structure Fr (S : Nat → Prop) (w w' : World) : Prop where
  os : w'.os = w.os
  tape : w'.tape = w.tape
  output : w'.output = w.output
  size : w.heap.size ≤ w'.heap.size
  block : ∀ k, k < w.heap.size → ¬ S k → w'.heap[k]? = w.heap[k]?
/-- Blocks from b on. -/
abbrev From (b : Nat) : Nat → Prop := fun k => b ≤ k
/-- No block. -/
abbrev Nob : Nat → Prop := fun _ => False
theorem Fr.refl (S : Nat → Prop) (w : World) : Fr S w w := ⟨rfl, rfl, rfl, Nat.le_refl _, fun _ _ _ => rfl⟩
theorem Fr.mono {S T : Nat → Prop} {w w' : World} (h : Fr S w w') (hs : ∀ k, k < w.heap.size → S k → T k) : Fr T w w' := ⟨h.os, h.tape, h.output, h.size, fun k hk hn => h.block k hk (fun q => hn (hs k hk q))⟩
theorem Fr.trans {S T : Nat → Prop} {a b c : World} (h : Fr S a b) (k : Fr T b c) (hs : ∀ k, k < a.heap.size → T k → S k) : Fr S a c :=
  ⟨k.os.trans h.os, k.tape.trans h.tape, k.output.trans h.output, Nat.le_trans h.size k.size, fun i hi hn => (k.block i (Nat.lt_of_lt_of_le hi h.size) (fun q => hn (hs i hi q))).trans (h.block i hi hn)⟩
theorem Fr.trans0 {S : Nat → Prop} {a b c : World} (h : Fr S a b) (k : Fr S b c) : Fr S a c := h.trans k fun _ _ q => q
theorem Fr.drew {S : Nat → Prop} {a b : World} (h : Fr S a b) : Fr S a b.drew := ⟨h.os, h.tape, h.output, h.size, h.block⟩
theorem Fr.drewN {S : Nat → Prop} {a b : World} (h : Fr S a b) (n : Nat) : Fr S a (b.drewN n) := ⟨h.os, h.tape, h.output, h.size, h.block⟩
theorem Fr.alloc {S : Nat → Prop} {a b : World} (h : Fr S a b) (o : Obj) : Fr S a (b.alloc o) :=
  ⟨h.os, h.tape, h.output, by have := h.size; simp; omega, fun k hk hn => (heap_alloc_old b o (Nat.lt_of_lt_of_le hk h.size)).trans (h.block k hk hn)⟩
theorem Fr.setCell {S : Nat → Prop} {a b : World} (h : Fr S a b) {p : Addr} (hp : S p.block ∨ a.heap.size ≤ p.block) (u : Value) : Fr S a (b.setCell p u) :=
  ⟨h.os, h.tape, h.output, by have := h.size; simp; omega, fun k hk hn => by
    rw [heap_setCell_other _ _ _ _ (by rintro rfl; rcases hp with hp | hp; exact hn hp; omega)]; exact h.block k hk hn⟩
theorem Fr.grown {S : Nat → Prop} {a b c : World} {row : Option Nat} (h : Fr S a b) (hg : b.grownBy c row) (hr : ∀ k, row = some k → S k ∨ a.heap.size ≤ k) : Fr S a c :=
  ⟨hg.os.trans h.os, hg.tape.trans h.tape, hg.output.trans h.output, Nat.le_trans h.size hg.size, fun k hk hn =>
    (hg.block k (Nat.lt_of_lt_of_le hk h.size) (fun e => by rcases hr k e.symm with q | q; exact hn q; omega)).trans (h.block k hk hn)⟩
theorem Fr.ofDrew {w w' : World} (h : ∃ m, w' = w.drewN m) : Fr Nob w w' := by obtain ⟨m, rfl⟩ := h; exact (Fr.refl _ _).drewN m
theorem Fr.none {S : Nat → Prop} {w w' : World} (h : Fr Nob w w') : Fr S w w' := h.mono fun _ _ q => q.elim
theorem Fr.below {S : Nat → Prop} {w w' : World} (h : Fr S w w') {B : Nat} (hB : B ≤ w.heap.size) (hs : ∀ k, S k → B ≤ k) : Below B w w' :=
  ⟨h.os, h.tape, h.output, h.size, fun k hk => h.block k (by omega) (fun q => by have := hs k q; omega)⟩
theorem Fr.ofBelow {w w' : World} {B : Nat} (h : Below B w w') : Fr (From B) w w' := ⟨h.os, h.tape, h.output, h.size, fun k _ hn => h.block k (by unfold From at hn; omega)⟩
theorem Fr.cell {S : Nat → Prop} {w w' : World} (h : Fr S w w') {p : Addr} {v : Value} (hp : ¬ S p.block) (hc : w.cell? p = some v) : w'.cell? p = some v :=
  (World.cell?_of_block (h.block p.block (World.block_lt_of_cell? w p hc) hp)).trans hc
theorem Fr.frozen {S : Nat → Prop} {w w' : World} (h : Fr S w w') {p : Addr} (hp : ¬ S p.block) (hlt : p.block < w.heap.size) : w'.frozen? p = w.frozen? p :=
  World.frozen?_of_block (h.block p.block hlt hp)
theorem Fr.blk {S : Nat → Prop} {w w' : World} (h : Fr S w w') {k : Nat} {o : Obj} (hk : ¬ S k) (hb : w.heap[k]? = some o) : w'.heap[k]? = some o :=
  (h.block k (lt_of_block hb) hk).trans hb
/-- Two sets of blocks, both from block B on, both of blocks that are there, that have no block in common. -/
structure Two (B : Nat) (w : World) (S T : Nat → Prop) : Prop where
  l : ∀ k, S k → B ≤ k ∧ k < w.heap.size
  r : ∀ k, T k → B ≤ k ∧ k < w.heap.size
  dis : ∀ k, S k → T k → False
theorem Two.keep {B : Nat} {w w' : World} {S T : Nat → Prop} (h : Two B w S T) (hs : w.heap.size ≤ w'.heap.size) : Two B w' S T :=
  ⟨fun k q => ⟨(h.l k q).1, by have := (h.l k q).2; omega⟩, fun k q => ⟨(h.r k q).1, by have := (h.r k q).2; omega⟩, h.dis⟩
theorem Two.fr {B : Nat} {w w' : World} {S T F : Nat → Prop} (h : Two B w S T) (hf : Fr F w w') : Two B w' S T := h.keep hf.size
/-- A set and the blocks that are new in w'. -/
abbrev And' (S : Nat → Prop) (w w' : World) : Nat → Prop := fun k => S k ∨ (w.heap.size ≤ k ∧ k < w'.heap.size)
theorem Two.growR {B : Nat} {w w' : World} {S T : Nat → Prop} (h : Two B w S T) (hs : w.heap.size ≤ w'.heap.size) (hB : B ≤ w.heap.size) : Two B w' S (And' T w w') :=
  ⟨fun k q => ⟨(h.l k q).1, by have := (h.l k q).2; omega⟩, fun k q => by rcases q with q | q; exact ⟨(h.r k q).1, by have := (h.r k q).2; omega⟩; omega,
   fun k q r => by rcases r with r | r; exact h.dis k q r; have := (h.l k q).2; omega⟩
theorem Two.swap {B : Nat} {w : World} {S T : Nat → Prop} (h : Two B w S T) : Two B w T S := ⟨h.r, h.l, fun k a b => h.dis k b a⟩
theorem Two.growL {B : Nat} {w w' : World} {S T : Nat → Prop} (h : Two B w S T) (hs : w.heap.size ≤ w'.heap.size) (hB : B ≤ w.heap.size) : Two B w' (And' S w w') T := (h.swap.growR hs hB).swap
theorem Two.noR {B : Nat} {w : World} {S T : Nat → Prop} (h : Two B w S T) : Two B w S Nob := ⟨h.l, fun _ q => q.elim, fun _ _ q => q⟩
/-- The set of the blocks of a set that are there. -/
theorem there {w w' : World} {S : Nat → Prop} (k : Nat) (hk : k < w'.heap.size) (q : S k ∨ w.heap.size ≤ k) : And' S w w' k := by rcases q with q | q; exact .inl q; exact .inr ⟨q, hk⟩
/-! Blocks that are known whole -/
theorem blk_cell {w : World} {b : Nat} {cs : Array Value} {T : TypeId} {fr : Nat × Nat} (h : w.heap[b]? = some (.cells cs T fr)) (o : Nat) {v : Value} (hv : cs[o]? = some v) : w.cell? ⟨b, o, none⟩ = some v := by
  simp [World.cell?, h, hv]
theorem blk_froz {w : World} {b : Nat} {cs : Array Value} {T : TypeId} (h : w.heap[b]? = some (.cells cs T (0,0))) (o : Nat) : w.frozen? ⟨b, o, none⟩ = false := by
  simp [World.frozen?, h]
theorem blk_set {w : World} {b : Nat} {cs : Array Value} {T : TypeId} {fr : Nat × Nat} (h : w.heap[b]? = some (.cells cs T fr)) (o : Nat) (v : Value) : (w.setCell ⟨b, o, none⟩ v).heap[b]? = some (.cells (cs.setIfInBounds o v) T fr) := by
  have hlt := lt_of_block h
  have h' : w.heap[b] = .cells cs T fr := by simpa [Array.getElem?_eq_getElem hlt] using h
  show (w.heap.modify b _)[b]? = _
  rw [Array.getElem?_eq_getElem (by simpa using hlt), Array.getElem_modify_self, h']
  rfl
theorem blk_set_ne {w : World} {b k : Nat} (o : Nat) (v : Value) (h : k ≠ b) : (w.setCell ⟨b, o, none⟩ v).heap[k]? = w.heap[k]? := heap_setCell_other _ _ _ _ h
theorem blk_alloc_ne {w : World} {k : Nat} (o : Obj) (h : k < w.heap.size) : (w.alloc o).heap[k]? = w.heap[k]? := heap_alloc_old w o h
theorem blk_alloc_eq {w : World} {k : Nat} (o : Obj) (h : k = w.heap.size) : (w.alloc o).heap[k]? = some o := by subst h; exact heap_alloc_new w o
theorem blk_drew {w : World} (k : Nat) : w.drew.heap[k]? = w.heap[k]? := rfl
theorem size_drewN' {w : World} (n : Nat) : (w.drewN n).heap.size = w.heap.size := rfl
/-! A slice that lies in a block of S (nil let in): n elements of sz cells each, the cells cs -/
def Sl (w : World) (S : Nat → Prop) (T : TypeId) (sz : Nat) (v : Value) (n : Nat) (cs : List Value) : Prop :=
  cs.length = n * sz ∧ ((v = .slice none 0 0 ∧ n = 0) ∨
    ∃ g off cap blk, v = .slice (some ⟨g, off, none⟩) n cap ∧ S g ∧ w.heap[g]? = some (.cells blk T (0, 0)) ∧ n ≤ cap ∧ cap ≤ maxLen ∧ off + cap * sz ≤ blk.size ∧
      ∀ j u, cs[j]? = some u → blk[off + j]? = some u)
theorem Sl.nil (w : World) (S : Nat → Prop) (T : TypeId) (sz : Nat) : Sl w S T sz (.slice none 0 0) 0 [] := ⟨by simp, .inl ⟨rfl, rfl⟩⟩
theorem Sl.mono {w : World} {S S' : Nat → Prop} {T : TypeId} {sz : Nat} {v : Value} {n : Nat} {cs : List Value} (h : Sl w S T sz v n cs) (hs : ∀ k, k < w.heap.size → S k → S' k) : Sl w S' T sz v n cs := by
  refine ⟨h.1, ?_⟩
  rcases h.2 with h | ⟨g, off, cap, blk, hv, hg, hb, r⟩
  · exact .inl h
  · exact .inr ⟨g, off, cap, blk, hv, hs g (lt_of_block hb) hg, hb, r⟩
theorem Sl.fr {w w' : World} {S F : Nat → Prop} {T : TypeId} {sz : Nat} {v : Value} {n : Nat} {cs : List Value} (h : Sl w S T sz v n cs) (hf : Fr F w w') (hd : ∀ k, S k → F k → False) : Sl w' S T sz v n cs := by
  refine ⟨h.1, ?_⟩
  rcases h.2 with h | ⟨g, off, cap, blk, hv, hg, hb, r⟩
  · exact .inl h
  · exact .inr ⟨g, off, cap, blk, hv, hg, hf.blk (fun q => hd g hg q) hb, r⟩
theorem Sl.alloc {w : World} {S : Nat → Prop} {T : TypeId} {sz : Nat} {v : Value} {n : Nat} {cs : List Value} (h : Sl w S T sz v n cs) (o : Obj) : Sl (w.alloc o) S T sz v n cs := h.fr ((Fr.refl Nob w).alloc o) fun _ _ q => q
theorem Sl.drew {w : World} {S : Nat → Prop} {T : TypeId} {sz : Nat} {v : Value} {n : Nat} {cs : List Value} (h : Sl w S T sz v n cs) : Sl w.drew S T sz v n cs := h
theorem Sl.drewN {w : World} {S : Nat → Prop} {T : TypeId} {sz : Nat} {v : Value} {n : Nat} {cs : List Value} (h : Sl w S T sz v n cs) (m : Nat) : Sl (w.drewN m) S T sz v n cs := h
theorem Sl.slice {w : World} {S : Nat → Prop} {T : TypeId} {sz : Nat} {v : Value} {n : Nat} {cs : List Value} (h : Sl w S T sz v n cs) : ∃ A cap, v = .slice A n cap := by
  rcases h.2 with ⟨rfl, rfl⟩ | ⟨g, off, cap, blk, rfl, _⟩
  · exact ⟨_, _, rfl⟩
  · exact ⟨_, _, rfl⟩
/-- It has an element: its place, its cells. -/
theorem Sl.form {w : World} {S : Nat → Prop} {T : TypeId} {sz : Nat} {v : Value} {n : Nat} {cs : List Value} (h : Sl w S T sz v n cs) (hn : 0 < n) :
    ∃ g off cap, v = .slice (some ⟨g, off, none⟩) n cap ∧ S g ∧ g < w.heap.size ∧ n ≤ cap ∧ cap ≤ maxLen ∧ (∀ j u, cs[j]? = some u → w.cell? ⟨g, off + j, none⟩ = some u) ∧ ∀ j, w.frozen? ⟨g, j, none⟩ = false := by
  rcases h.2 with ⟨rfl, rfl⟩ | ⟨g, off, cap, blk, rfl, hg, hb, h1, h2, h3, h4⟩
  · omega
  · exact ⟨g, off, cap, rfl, hg, lt_of_block hb, h1, h2, fun j u hj => blk_cell hb _ (h4 j u hj), fun j => blk_froz hb j⟩
theorem Sl.len_le {w : World} {S : Nat → Prop} {T : TypeId} {sz : Nat} {v : Value} {n : Nat} {cs : List Value} (h : Sl w S T sz v n cs) : n ≤ maxLen := by
  rcases h.2 with ⟨rfl, rfl⟩ | ⟨g, off, cap, blk, rfl, hg, hb, h1, h2, h3, h4⟩
  · simp [maxLen]
  · omega
theorem Sl.ofOwns {w : World} {base : Nat} {T : TypeId} {sz : Nat} {v : Value} {n : Nat} {cs : List Value} (h : w.ownsRow base T sz v n cs) : Sl w (From base) T sz v n cs := by
  refine ⟨h.1, ?_⟩
  rcases h.2 with h2 | ⟨g, cap, cur, rfl, hb, hg, h1, h2, h3, h4⟩
  · exact .inl h2
  · refine .inr ⟨g, 0, cap, cur, rfl, hb, hg, h1, h2, by omega, fun j u hj => ?_⟩
    rw [← h4, List.getElem?_take] at hj
    split at hj
    · simpa using hj
    · cases hj
/-- A store into an element's cell. -/
theorem Sl.set {w : World} {S : Nat → Prop} {T : TypeId} {sz : Nat} {n cap g off : Nat} {cs : List Value} (h : Sl w S T sz (.slice (some ⟨g, off, none⟩) n cap) n cs) (j : Nat) (hj : j < n * sz) (u : Value) :
    Sl (w.setCell ⟨g, off + j, none⟩ u) S T sz (.slice (some ⟨g, off, none⟩) n cap) n (cs.set j u) := by
  refine ⟨by simp [h.1], ?_⟩
  rcases h.2 with ⟨h', _⟩ | ⟨g', off', cap', blk, hv, hg, hb, h1, h2, h3, h4⟩
  · cases h'
  · injection hv with ha hb' hc
    injection ha with ha
    injection ha with ha hoff
    subst ha; subst hoff; subst hc
    refine .inr ⟨g, off, cap, _, rfl, hg, blk_set hb _ _, h1, h2, by simpa using h3, fun i x hx => ?_⟩
    rw [List.getElem?_set] at hx
    rw [Array.getElem?_setIfInBounds]
    split at hx
    · next e =>
      subst e
      rw [if_pos rfl]
      have : off + j < blk.size := by have := Nat.mul_le_mul_right sz h1; omega
      split at hx
      · rw [if_pos this]; exact hx
      · cases hx
    · next e =>
      rw [if_neg (by omega)]
      exact h4 i x hx
/-- A new literal block, whole. -/
theorem Sl.lit (w : World) (T : TypeId) (sz : Nat) (blk : Array Value) (n : Nat) (S : Nat → Prop) (hS : S w.heap.size) (hn : n ≤ maxLen) (hs : blk.size = n * sz) :
    Sl (w.alloc (.cells blk T)) S T sz (.slice (some ⟨w.heap.size, 0, none⟩) n n) n blk.toList :=
  ⟨by simpa using hs, .inr ⟨w.heap.size, 0, n, blk, rfl, hS, heap_alloc_new w _, Nat.le_refl _, hn, by omega, fun j u hj => by simpa using hj⟩⟩
theorem setCells_blk (b : Nat) (T : TypeId) (fr : Nat × Nat) : ∀ (vs : List Value) (o : Nat) (w : World) (blk : Array Value), w.heap[b]? = some (.cells blk T fr) → o + vs.length ≤ blk.size →
    ∃ blk' : Array Value, (w.setCells b o vs).heap[b]? = some (.cells blk' T fr) ∧ blk'.size = blk.size ∧ (∀ j, j < o → blk'[j]? = blk[j]?) ∧ ∀ j u, vs[j]? = some u → blk'[o + j]? = some u
  | [], o, w, blk, h, _ => ⟨blk, h, rfl, fun _ _ => rfl, fun j u hj => by simp at hj⟩
  | v :: r, o, w, blk, h, hs => by
    simp only [List.length_cons] at hs
    obtain ⟨blk', h1, h2, h3, h4⟩ := setCells_blk b T fr r (o + 1) (w.setCell ⟨b, o, none⟩ v) (blk.setIfInBounds o v) (blk_set h o v) (by simp; omega)
    refine ⟨blk', h1, by simpa using h2, fun j hj => ?_, fun j u hj => ?_⟩
    · rw [h3 j (by omega), Array.getElem?_setIfInBounds, if_neg (by omega)]
    · cases j with
      | zero =>
        simp at hj
        subst hj
        rw [h3 _ (by omega), Nat.add_zero, Array.getElem?_setIfInBounds, if_pos rfl, if_pos (by omega)]
      | succ j =>
        rw [show o + (j + 1) = o + 1 + j by omega]
        exact h4 j u (by simpa using hj)
theorem setCells_fr (b : Nat) : ∀ (vs : List Value) (o : Nat) (w : World), Fr (fun k => k = b) w (w.setCells b o vs)
  | [], _, w => Fr.refl _ w
  | v :: r, o, w => ((Fr.refl (fun k => k = b) w).setCell (p := ⟨b, o, none⟩) (.inl rfl) v).trans0 (setCells_fr b r (o + 1) _)
/-- append onto such a slice: it lies in S, or in a new block; of what was there nothing else has turned. -/
theorem run_append_sl {P : Program} (w : World) (S : Nat → Prop) (t ty e : TypeId) (i : TypeInfo) (z : Value) (size bytes : Nat) (ht : P.underlying t = some (.slice e)) (hi : P.info? e = some i) (hz : i.zero = some z)
    (hsize : i.size = size) (hby : i.bytes = bytes) (hzs : z.cells.size = size) (hsz : 0 < size)
    (v : Value) (n : Nat) (xs : List Value) (hown : Sl w S e size v n xs)
    (a : Addr) (m c : Nat) (news : List Value) (hl : news.length = m * size) (hnews : ∀ j u, news[j]? = some u → w.cell? (a.add j) = some u) (h1 : ∀ u ∈ news, u.oneCell' = true)
    (h63 : n + m ≤ maxLen) (hbytes : (n + m) * bytes ≤ 140737488355328) :
    ∃ v' w', (Builtin.append_ #[t, t] ty #[v, .slice (some a) m c]).run P w = .ok v' w' ∧ Sl w' (fun k => S k ∨ w.heap.size ≤ k) e size v' (n + m) (xs ++ news) ∧ Fr S w w' := by
  rcases hown.2 with ⟨rfl, rfl⟩ | ⟨g, off, cap, blk, rfl, hg, hb, g1, g2, g3, g4⟩
  · obtain rfl : xs = [] := List.eq_nil_of_length_eq_zero (by simpa using hown.1)
    obtain ⟨v', w', hrun, r1, r2, _⟩ := run_append_own (P := P) w w.heap.size t ty e i z size bytes ht hi hz hsize hby hzs hsz (.slice none 0 0) 0 [] (World.ownsRow_nil w _ e size) a m c news hl hnews h1 h63 hbytes (Nat.le_refl _)
    exact ⟨v', w', hrun, (Sl.ofOwns r1).mono fun k _ q => .inr q, (Fr.refl S w).grown r2 (by intro k hk; simp [Value.ownBlock] at hk)⟩
  · by_cases hr : n + m ≤ cap
    · subst hsize
      have hm1 : n * i.size + m * i.size ≤ cap * i.size := by rw [← Nat.add_mul]; exact Nat.mul_le_mul_right _ hr
      have hrun := run_append_room_cells (P := P) w t ty e i ht hi g off n cap a m c news hl hnews h1 hr
        (fun j hj => by
          have hlt : off + n * i.size + j < blk.size := by omega
          rw [blk_cell hb (off + n * i.size + j) (Array.getElem?_eq_getElem hlt)]; rfl)
        (fun j hj => blk_froz hb _)
      obtain ⟨blk', q1, q2, q3, q4⟩ := setCells_blk g e (0, 0) news (off + n * i.size) w blk hb (by omega)
      refine ⟨_, _, hrun, ⟨by rw [List.length_append, hown.1, hl, Nat.add_mul], .inr ⟨g, off, cap, blk', rfl, .inl hg, q1, hr, g2, by omega, fun j u hj => ?_⟩⟩, (setCells_fr g news _ w).mono fun k _ e => by rw [e]; exact hg⟩
      rw [List.getElem?_append] at hj
      split at hj
      · next hlt =>
        rw [hown.1] at hlt
        rw [q3 _ (by omega)]
        exact g4 j u hj
      · next hlt =>
        rw [hown.1] at hlt hj
        have := q4 _ u hj
        rwa [show off + n * i.size + (j - n * i.size) = off + j by omega] at this
    · obtain ⟨v', w', hrun, r1, r2⟩ := run_append_arg_grows (P := P) w t ty e i z size bytes ht hi hz hsize hby hzs hsz ⟨g, off, none⟩ n cap xs hown.1 (fun j u hj => by rw [Addr.add_lit]; exact blk_cell hb _ (g4 j u hj)) a m c news hl hnews (by omega) h63 hbytes
      exact ⟨v', w', hrun, (Sl.ofOwns r1).mono fun k _ q => .inr q, (Fr.refl S w).grown r2 (by intro k hk; cases hk)⟩
theorem wpList_append_sl {P : Program} (w : World) {ops : Array Oper} {rest : List Oper} {o : Oper} {a : Act} {Q : Exit → Act → World → Prop} (hgd : o.guard = none) (s x : Operand) (t : TypeId)
    (ho : o.op = .call { callee := .builtin .append, args := #[s, x], argTypes := #[t, t] })
    (S : Nat → Prop) (e : TypeId) (z : Value) (size bytes : Nat) (ht : P.underlying t = some (.slice e)) (hinfo : (P.info? e).map (fun i => (i.zero, i.size, i.bytes)) = some (some z, size, bytes)) (hzs : z.cells.size = size) (hsz : 0 < size)
    (v : Value) (n : Nat) (xs : List Value) (hs : a.eval s = v) (hown : Sl w S e size v n xs)
    (ad : Addr) (m c : Nat) (news : List Value) (hx : a.eval x = .slice (some ad) m c) (hl : news.length = m * size) (hnews : ∀ j u, news[j]? = some u → w.cell? (ad.add j) = some u) (h1 : ∀ u ∈ news, u.oneCell' = true)
    (h63 : n + m ≤ maxLen) (hbytes : (n + m) * bytes ≤ 140737488355328)
    (h : ∀ v' w', Sl w' (fun k => S k ∨ w.heap.size ≤ k) e size v' (n + m) (xs ++ news) → Fr S w w' → wpList P ops Q rest (a.put o.dst v') w') : wpList P ops Q (o :: rest) a w := by
  obtain ⟨i, hi, hz, hs1, hb1⟩ := info_parts hinfo
  refine wpList_plain hgd fun K hK => ?_
  obtain ⟨v', w', hr, h2, h3⟩ := run_append_sl (P := P) w S t o.type e i z size bytes ht hi hz hs1 hb1 hzs hsz v n xs hown ad m c news hl hnews h1 h63 hbytes
  unfold Oper.wp execOp
  simp only [ho, resolve, invoke, builtin, Sem.run_bind, Sem.run_pure, Result.andThen_ok, List.map_toArray, List.map_cons, List.map_nil, hs, hx, hr]
  exact hK _ _ (h v' w' h2 h3)
/-- append(v, y): behind the one-element block that the translation lays for y (cells: ys). -/
theorem wpList_append1 {P : Program} (W : World) {ops : Array Oper} {rest : List Oper} {o : Oper} {a : Act} {Q : Exit → Act → World → Prop} (hgd : o.guard = none) (s x : Operand) (t : TypeId)
    (ho : o.op = .call { callee := .builtin .append, args := #[s, x], argTypes := #[t, t] })
    (S : Nat → Prop) (e : TypeId) (z : Value) (size bytes : Nat) (ht : P.underlying t = some (.slice e)) (hinfo : (P.info? e).map (fun i => (i.zero, i.size, i.bytes)) = some (some z, size, bytes)) (hzs : z.cells.size = size) (hsz : 0 < size)
    (v : Value) (n : Nat) (xs ys : List Value) (hs : a.eval s = v) (hown : Sl W S e size v n xs)
    (hx : a.eval x = .slice (some ⟨W.heap.size, 0, none⟩) 1 1) (hl : ys.length = size) (h1 : ys.all (·.oneCell') = true)
    (hbytes : (n + 1) * bytes ≤ 140737488355328) (hb0 : 0 < bytes)
    (h : ∀ v' w', Sl w' (fun k => S k ∨ W.heap.size ≤ k) e size v' (n + 1) (xs ++ ys) → Fr S W w' → W.heap.size < w'.heap.size → wpList P ops Q rest (a.put o.dst v') w') : wpList P ops Q (o :: rest) a (W.alloc (.cells ys.toArray e)) := by
  have hlen : n + 1 ≤ 140737488355328 := Nat.le_trans (Nat.le_mul_of_pos_right _ hb0) hbytes
  have hown' : Sl (W.alloc (.cells ys.toArray e)) S e size v n xs := hown.fr ((Fr.refl Nob W).alloc _) fun _ _ q => q
  refine wpList_append_sl (W.alloc (.cells ys.toArray e)) hgd s x t ho S e z size bytes ht hinfo hzs hsz v n xs hs hown' ⟨W.heap.size, 0, none⟩ 1 1 ys hx (by omega) (fun j u hj => ?_) (fun u hu => List.all_eq_true.1 h1 u hu) (by simp only [maxLen]; omega) hbytes ?_
  · rw [Addr.add_lit, blk_cell (heap_alloc_new W _)]
    simpa using hj
  · intro v' w' hsl hfr
    refine h v' w' (hsl.mono fun k _ q => ?_) (((Fr.refl S W).alloc _).trans0 hfr) (by have := hfr.size; simp at this; omega)
    rcases q with q | q
    · exact .inl q
    · simp at q; exact .inr (by omega)
/-- append as one step of a region that draws (go_region_held3, go_region_law). -/
theorem step_append_sl {P : Program} {ops : Array Oper} {o : Oper} {a : Act} {K : Act → World → Prop} {Q : Exit → Act → World → Prop} {E : Prop} (w : World) (hg : o.guard = none) (s x : Operand) (t : TypeId)
    (ho : o.op = .call { callee := .builtin .append, args := #[s, x], argTypes := #[t, t] })
    (S : Nat → Prop) (e : TypeId) (z : Value) (size bytes : Nat) (ht : P.underlying t = some (.slice e)) (hinfo : (P.info? e).map (fun i => (i.zero, i.size, i.bytes)) = some (some z, size, bytes)) (hzs : z.cells.size = size) (hsz : 0 < size)
    (v : Value) (n : Nat) (xs : List Value) (hs : a.eval s = v) (hown : Sl w S e size v n xs)
    (ad : Addr) (m c : Nat) (news : List Value) (hx : a.eval x = .slice (some ad) m c) (hl : news.length = m * size) (hnews : ∀ j u, news[j]? = some u → w.cell? (ad.add j) = some u) (h1 : news.all (·.oneCell') = true)
    (hbytes : (n + m) * bytes ≤ 140737488355328) (hb0 : 0 < bytes)
    (h : ∀ v' w', Sl w' (fun k => S k ∨ w.heap.size ≤ k) e size v' (n + m) (xs ++ news) → Fr S w w' → K (a.put o.dst v') w') :
    if Region.wanted o (yielded ops a.tmps) = true then Oper.wp P o a w K Q else E := by
  have hlen : n + m ≤ 140737488355328 := Nat.le_trans (Nat.le_mul_of_pos_right _ hb0) hbytes
  have hw : Region.wanted o (yielded ops a.tmps) = true := by simp [Region.wanted, hg]
  rw [if_pos hw]
  obtain ⟨i, hi, hz, hs1, hb1⟩ := info_parts hinfo
  obtain ⟨v', w', hr, h2, h3⟩ := run_append_sl (P := P) w S t o.type e i z size bytes ht hi hz hs1 hb1 hzs hsz v n xs hown ad m c news hl hnews (fun u hu => List.all_eq_true.1 h1 u hu) (by simp only [maxLen]; omega) hbytes
  unfold Oper.wp execOp
  simp only [ho, resolve, invoke, builtin, Sem.run_bind, Sem.run_pure, Result.andThen_ok, List.map_toArray, List.map_cons, List.map_nil, hs, hx, hr]
  exact h v' w' h2 h3
theorem news_lit (W : World) (ys : List Value) (T : TypeId) (fr : Nat × Nat) (b : Nat) (h : W.heap[b]? = some (.cells ys.toArray T fr)) : ∀ j u, ys[j]? = some u → W.cell? ((⟨b, 0, none⟩ : Addr).add j) = some u := by
  intro j u hj
  rw [Addr.add_lit, blk_cell h]
  simpa using hj
/-! A slice that is read: its elements' cells are there (nil let in) -/
def Rd (w : World) (sz : Nat) (v : Value) (n : Nat) (cs : List Value) : Prop :=
  cs.length = n * sz ∧ n ≤ maxLen ∧ ∃ A cap, v = .slice A n cap ∧ n ≤ cap ∧ cap ≤ maxLen ∧ (0 < n → ∃ g off, A = some ⟨g, off, none⟩ ∧ g < w.heap.size ∧ ∀ j u, cs[j]? = some u → w.cell? ⟨g, off + j, none⟩ = some u)
theorem Sl.rd {w : World} {S : Nat → Prop} {T : TypeId} {sz : Nat} {v : Value} {n : Nat} {cs : List Value} (h : Sl w S T sz v n cs) : Rd w sz v n cs := by
  refine ⟨h.1, h.len_le, ?_⟩
  rcases h.2 with ⟨rfl, rfl⟩ | ⟨g, off, cap, blk, rfl, hg, hb, h1, h2, h3, h4⟩
  · exact ⟨_, _, rfl, Nat.le_refl _, by simp [maxLen], fun h => absurd h (by omega)⟩
  · exact ⟨_, _, rfl, h1, h2, fun _ => ⟨g, off, rfl, lt_of_block hb, fun j u hj => blk_cell hb _ (h4 j u hj)⟩⟩
theorem Rd.fr {w w' : World} {sz : Nat} {v : Value} {n : Nat} {cs : List Value} (h : Rd w sz v n cs) (hf : Fr Nob w w') : Rd w' sz v n cs := by
  obtain ⟨h1, h2, A, cap, hv, h3, h4, h5⟩ := h
  refine ⟨h1, h2, A, cap, hv, h3, h4, fun hn => ?_⟩
  obtain ⟨g, off, hA, hg, hc⟩ := h5 hn
  exact ⟨g, off, hA, Nat.lt_of_lt_of_le hg hf.size, fun j u hj => hf.cell (p := ⟨g, off + j, none⟩) id (hc j u hj)⟩
theorem Rd.below {w w' : World} {B sz : Nat} {v : Value} {n : Nat} {cs : List Value} (h : Rd w sz v n cs) (hf : Below w.heap.size w w') : Rd w' sz v n cs := h.fr ((Fr.ofBelow hf).mono fun k hk q => absurd q (by unfold From; omega))
/-! xs[m:k] -/
theorem Sl.sub {w : World} {S : Nat → Prop} {T : TypeId} {sz n c : Nat} {A : Option Addr} {cs : List Value} (h : Sl w S T sz (.slice A n c) n cs) (m k : Nat) (hm : m ≤ k) (hk : k ≤ n) :
    Sl w S T sz (.slice (if c = m then A else A.map (·.add (m * sz))) (k - m) (c - m)) (k - m) ((cs.drop (m * sz)).take ((k - m) * sz)) := by
  obtain ⟨h1, h2⟩ := h
  have e0 : (k - m) * sz + m * sz = k * sz := by rw [← Nat.add_mul]; congr 1; omega
  have e1 : k * sz ≤ n * sz := Nat.mul_le_mul_right _ hk
  refine ⟨by rw [List.length_take, List.length_drop, h1]; omega, ?_⟩
  rcases h2 with ⟨hv, hn⟩ | ⟨g, off, cap, blk, hv, hg, hb, g1, g2, g3, g4⟩
  · injection hv with a1 a2 a3
    subst a1; subst a3
    left
    have : m = 0 := by omega
    have : k = 0 := by omega
    subst_vars
    exact ⟨rfl, rfl⟩
  · injection hv with a1 a2 a3
    subst a1; subst a3
    right
    by_cases hc : c = m
    · subst hc
      have : k = c := by omega
      subst this
      refine ⟨g, off, 0, blk, by simp, hg, hb, by omega, by simp [maxLen], by omega, fun j u hj => by simp at hj⟩
    · refine ⟨g, off + m * sz, c - m, blk, by rw [if_neg hc]; simp [Addr.add_lit], hg, hb, by omega, by omega, ?_, fun j u hj => ?_⟩
      · have : (c - m) * sz + m * sz = c * sz := by rw [← Nat.add_mul]; congr 1; omega
        omega
      · rw [List.getElem?_take] at hj
        split at hj
        · rw [List.getElem?_drop] at hj
          have := g4 _ u hj
          rwa [← Nat.add_assoc] at this
        · cases hj
theorem Rd.sub {w : World} {sz n c : Nat} {A : Option Addr} {cs : List Value} (h : Rd w sz (.slice A n c) n cs) (m k : Nat) (hm : m ≤ k) (hk : k ≤ n) :
    Rd w sz (.slice (if c = m then A else A.map (·.add (m * sz))) (k - m) (c - m)) (k - m) ((cs.drop (m * sz)).take ((k - m) * sz)) := by
  obtain ⟨h1, h2, A', cap, hv, h3, h4, h5⟩ := h
  injection hv with a1 a2 a3
  subst a1; subst a3
  have e0 : (k - m) * sz + m * sz = k * sz := by rw [← Nat.add_mul]; congr 1; omega
  have e1 : k * sz ≤ n * sz := Nat.mul_le_mul_right _ hk
  refine ⟨by rw [List.length_take, List.length_drop, h1]; omega, by omega, _, _, rfl, by omega, by omega, fun hp => ?_⟩
  obtain ⟨g, off, rfl, hg, hc⟩ := h5 (by omega)
  rw [if_neg (by omega)]
  refine ⟨g, off + m * sz, by simp [Addr.add_lit], hg, fun j u hj => ?_⟩
  rw [List.getElem?_take] at hj
  split at hj
  · rw [List.getElem?_drop] at hj
    have := hc _ u hj
    rwa [← Nat.add_assoc] at this
  · cases hj
section
variable {P : Program} (t e : TypeId) (sz : Nat) (ht : P.underlying t = some (.slice e)) (hi : (P.info? e).map (·.size) = some sz) (A : Option Addr) (n c : Nat)
include ht hi
theorem cut_h (k : Nat) (hk : k ≤ n) (hn : n ≤ c) : ∃ A', (∀ W : World, (Instr.slice t (.slice A n c) none (some (.int .i64 (k : Int))) none).run P W = .ok (.slice A' k c) W) ∧
    (∀ (w : World) (S : Nat → Prop) (T : TypeId) (cs : List Value), Sl w S T sz (.slice A n c) n cs → Sl w S T sz (.slice A' k c) k (cs.take (k * sz))) ∧
    ∀ (w : World) (cs : List Value), Rd w sz (.slice A n c) n cs → Rd w sz (.slice A' k c) k (cs.take (k * sz)) := by
  obtain ⟨i, hi1, hi2⟩ := Option.map_eq_some_iff.1 hi
  have hel : P.elem t = e := by simp [Program.elem, ht]
  refine ⟨if c = 0 then A else A.map (·.add (0 * sz)), fun W => ?_, fun w S T cs h => ?_, fun w cs h => ?_⟩
  · rw [run_slice_h W t A n c (by rw [hel]; exact ht) .i64 (k : Int) (by omega) (by omega), hel]
    simp [sizeOf, typeInfo, hi1, hi2, sliced, Result.andThen]
  · have := h.sub 0 k (Nat.zero_le _) hk
    simpa using this
  · have := h.sub 0 k (Nat.zero_le _) hk
    simpa using this
end
/-! Lists of whole numbers as cells -/
abbrev ints (l : List Int) : List Value := l.map (Value.int .i64)
theorem ints_get {l : List Int} {j : Nat} (h : j < l.length) : (ints l)[j]? = some (.int .i64 (l.getD j 0)) := by simp [List.getD, h]
/-! Two arrays of whole numbers that are alike -/
open Go.ChangeShapes Go.WideShapes Go.ChangeAt Go.RowKit
/-- Cells that read as a thing of type e are so. -/
def Dec (P : Program) (w : World) (e : TypeId) (K : List Value → Prop) : Prop :=
  ∀ (H : Type) (enc : TypeId × Value → H) (n : Nat) (cs : List Value) (x : DataW H × List MemPlace), DataW.trod enc P w 0 (fun _ => true) true n e cs = some x → K cs
section
variable {P : Program} {w : World} {e t : TypeId}
theorem Dec.mono {K K' : List Value → Prop} (h : Dec P w e K) (hk : ∀ cs, K cs → K' cs) : Dec P w e K' := fun H enc n cs x hx => hk _ (h H enc n cs x hx)
theorem dec_int (ht : P.underlying e = some (.int .i64)) : Dec P w e fun cs => ∃ x, cs = [.int .i64 x] ∧ (Lit.int .i64 x).wf = true := by
  intro H enc n cs x hx
  obtain ⟨y, rfl, _, hw⟩ := DataW.trod_int ht hx
  exact ⟨y, rfl, hw⟩
/-- A struct: field by field. -/
theorem dec_struct {fs : Array Field} {sz : Nat} (ht : P.underlying t = some (.struct fs)) (hsz : P.cellsOf t = sz) (K : Nat → List Value → Prop)
    (h : ∀ i f, fs[i]? = some f → Dec P w f.type (K i)) : Dec P w t fun cs => cs.length = sz ∧ ∀ i f, fs[i]? = some f → K i ((cs.drop f.offset).take (P.cellsOf f.type)) := by
  intro H enc m cs x hx
  obtain ⟨xs, m', _, _, hl, hx1, hi⟩ := DataW.trod_struct ht hx
  subst hsz
  refine ⟨hl, fun i f hf => ?_⟩
  have := hi i f hf
  have hlt : i < xs.length := by
    have := (Array.getElem?_eq_some_iff.1 hf).1; omega
  rw [List.getElem?_eq_getElem hlt] at this
  exact h i f hf H enc _ _ _ this
theorem flat_get {α : Type} (en : α → List Value) {sz : Nat} : ∀ (l : List α), (∀ a ∈ l, (en a).length = sz) → ∀ i j a, l[i]? = some a → j < sz → (l.flatMap en)[i * sz + j]? = (en a)[j]?
  | [], _, i, j, a, h, _ => by simp at h
  | x :: l, hl, 0, j, a, h, hj => by
    simp at h; subst h
    rw [List.flatMap_cons, Nat.zero_mul, Nat.zero_add, List.getElem?_append_left (by rw [hl _ (List.mem_cons_self ..)]; exact hj)]
  | x :: l, hl, i + 1, j, a, h, hj => by
    have hx := hl _ (List.mem_cons_self ..)
    rw [List.flatMap_cons, List.getElem?_append_right (by rw [hx, Nat.add_mul]; omega), hx, show (i + 1) * sz + j - sz = i * sz + j by rw [Nat.add_mul]; omega]
    exact flat_get en l (fun b hb => hl b (List.mem_cons_of_mem _ hb)) i j a (by simpa using h) hj
theorem flat_len {α : Type} (en : α → List Value) {sz : Nat} : ∀ (l : List α), (∀ a ∈ l, (en a).length = sz) → (l.flatMap en).length = l.length * sz
  | [], _ => by simp
  | x :: l, hl => by
    rw [List.flatMap_cons, List.length_append, hl _ (List.mem_cons_self ..), flat_len en l (fun b hb => hl b (List.mem_cons_of_mem _ hb)), List.length_cons, Nat.add_mul]; omega
/-- A slice whose elements are so: a list of things, its cells there. -/
theorem dec_slice {α : Type} {sz : Nat} (en : α → List Value) (Q : α → Prop) (hz : 0 < sz) (ht : P.underlying t = some (.slice e)) (hsz : P.cellsOf e = sz) (hen : ∀ a, (en a).length = sz)
    (h : Dec P w e fun cs => ∃ a, cs = en a ∧ Q a) : Dec P w t fun cs => ∃ v, cs = [v] ∧ ∃ l : List α, Rd w sz v l.length (l.flatMap en) ∧ ∀ a ∈ l, Q a := by
  intro H enc m cs x hx
  rcases Go.Deep.open_slice ht hx with ⟨rfl, _⟩ | ⟨a, len, cap, m', n, D, Pl, rfl, hb, hl, hm, hmm, _, hi⟩
  · exact ⟨_, rfl, [], ⟨by simp, by simp [maxLen], _, _, rfl, by simp, by simp [maxLen], fun h => absurd h (by simp)⟩, fun x hx => by simp at hx⟩
  · subst hsz
    have hm' : m' = cap := by simpa using hmm
    subst hm'
    have hrow : ∀ i, i < len → ∃ a' : α, (∀ j, j < P.cellsOf e → w.cell? (a.add (i * P.cellsOf e + j)) = (en a')[j]?) ∧ Q a' := by
      intro i hil
      obtain ⟨cs', h1, h2⟩ := hi i (by omega)
      obtain ⟨_, h3, h4⟩ := World.cells?_some h1
      obtain ⟨a', rfl, hq⟩ := h H enc _ _ _ h2
      exact ⟨a', fun j hj => by rw [← h4 j hj, Go.Deep.add_add], hq⟩
    have hlist : ∀ k, k ≤ len → ∃ l : List α, l.length = k ∧ (∀ i a', l[i]? = some a' → ∀ j, j < P.cellsOf e → w.cell? (a.add (i * P.cellsOf e + j)) = (en a')[j]?) ∧ ∀ a ∈ l, Q a := by
      intro k
      induction k with
      | zero => exact fun _ => ⟨[], rfl, fun i a' h => by simp at h, fun _ h => by simp at h⟩
      | succ k ih =>
        intro hk
        obtain ⟨l, hl1, hl2, hl3⟩ := ih (by omega)
        obtain ⟨a', ha1, ha2⟩ := hrow k (by omega)
        refine ⟨l ++ [a'], by simp [hl1], fun i b hb j hj => ?_, fun b hb => ?_⟩
        · rw [List.getElem?_append] at hb
          split at hb
          · exact hl2 i b hb j hj
          · have : i = l.length := by
              have := (List.getElem?_eq_some_iff.1 hb).1; simp at this; omega
            subst this
            simp at hb; subst hb; rw [hl1]; exact ha1 j hj
        · rcases List.mem_append.1 hb with hb | hb
          · exact hl3 b hb
          · simp at hb; subst hb; exact ha2
    obtain ⟨l, hl1, hl2, hl3⟩ := hlist len (Nat.le_refl _)
    have hfl := flat_len en l fun a _ => hen a
    refine ⟨_, rfl, l, ⟨hfl, by omega, some a, m', by rw [hl1], by omega, hm, fun hn => ?_⟩, hl3⟩
    have hcell : ∀ k u, (l.flatMap en)[k]? = some u → w.cell? (a.add k) = some u := by
      intro k u hk
      have hk1 := (List.getElem?_eq_some_iff.1 hk).1
      rw [hfl] at hk1
      have hi1 : k / P.cellsOf e < l.length := (Nat.div_lt_iff_lt_mul hz).2 hk1
      have hj1 := Nat.mod_lt k hz
      have e1 := Nat.div_add_mod k (P.cellsOf e)
      rw [Nat.mul_comm] at e1
      have h5 := hl2 _ _ (List.getElem?_eq_getElem hi1) _ hj1
      have h6 := flat_get en l (fun a _ => hen a) _ _ _ (List.getElem?_eq_getElem hi1) hj1
      rw [e1] at h5 h6
      rw [h5, ← h6]; exact hk
    have h0 : ∃ u, (l.flatMap en)[0]? = some u := ⟨_, List.getElem?_eq_getElem (by rw [hfl]; exact Nat.mul_pos hn hz)⟩
    obtain ⟨u0, h0⟩ := h0
    have hc0 := hcell 0 u0 h0
    obtain ⟨b, off, spot⟩ := a
    have hspot : spot = none := by simpa [Addr.add] using World.cell?_spot hc0
    subst hspot
    refine ⟨b, off, rfl, block_lt_of_cell hc0, fun j u hj => ?_⟩
    have := hcell j u hj
    rwa [Addr.add_lit] at this
end
/-- An argument that is a slice of such things. -/
theorem opn_of {H : Type} {enc : TypeId × Value → H} {P : Program} {W : World} {t : TypeId} {v : Value} {d : DataW H} {p : List MemPlace} {K : List Value → Prop} (hd : Dec P W t K) (h : DataW.Trod enc P W 0 (fun _ => true) true t v d p) : K v.cells.toList := by
  obtain ⟨fuel, hf⟩ := h
  exact hd H enc _ _ _ hf
theorem opn_slice {H : Type} {enc : TypeId × Value → H} {P : Program} {W : World} {t e : TypeId} {α : Type} {sz : Nat} (en : α → List Value) (Q : α → Prop) (hz : 0 < sz) (ht : P.underlying t = some (.slice e)) (hsz : P.cellsOf e = sz) (hen : ∀ a, (en a).length = sz)
    (he : Dec P W e fun cs => ∃ a, cs = en a ∧ Q a) {base : Nat} {v : Value} {d : DataW H} {p : List MemPlace} (hv : Value.okWide P W .any base t v) (h : DataW.Trod enc P W 0 (fun _ => true) true t v d p) :
    ∃ l : List α, Rd W sz v l.length (l.flatMap en) ∧ ∀ a ∈ l, Q a := by
  obtain ⟨a, len, cap, rfl⟩ := okWide_slice ht hv
  obtain ⟨v, hv, r⟩ := opn_of (dec_slice en Q hz ht hsz hen he) h
  simp [Value.cells] at hv
  subst hv
  exact r
/-- One who waits: its task, its case, its value. -/
abbrev Wt := Int × Int × Int
abbrev wtCells (x : Wt) : List Value := [.int .i64 x.1, .int .i64 x.2.1, .int .i64 x.2.2]
abbrev wtVal (x : Wt) : Value := .agg #[.int .i64 x.1, .int .i64 x.2.1, .int .i64 x.2.2]
def ptr : Option Nat → Value
  | none => .pointer none
  | some k => .pointer (some ⟨k, 0, none⟩)
theorem ptr_none : ptr none = .pointer none := rfl
theorem ptr_some (k : Nat) : ptr (some k) = .pointer (some ⟨k, 0, none⟩) := rfl
def prevB (xs : List (Nat × Wt)) (j : Nat) : Option Nat := if j = 0 then none else (xs[j - 1]?).map (·.1)
def nextB (xs : List (Nat × Wt)) (j : Nat) : Option Nat := (xs[j + 1]?).map (·.1)
def lastB (xs : List (Nat × Wt)) : Option Nat := prevB xs xs.length
def firstB (xs : List (Nat × Wt)) : Option Nat := (xs[0]?).map (·.1)
def nodeObj (x : Wt) (p n : Option Nat) : Obj := .cells #[.int .i64 x.1, .int .i64 x.2.1, .int .i64 x.2.2, ptr p, ptr n] 156 (0, 0)
def queueObj (f l : Option Nat) (n : Nat) : Obj := .cells #[ptr f, ptr l, .int .i64 (n : Int)] 152 (0, 0)
/-- The nodes xs, in order, of the queue in block b. -/
structure QAt (w : World) (S : Nat → Prop) (b : Nat) (xs : List (Nat × Wt)) : Prop where
  own : S b
  blk : w.heap[b]? = some (queueObj (firstB xs) (lastB xs) xs.length)
  node : ∀ (j : Nat) (x : Nat × Wt), xs[j]? = some x → S x.1 ∧ x.1 ≠ b ∧ w.heap[x.1]? = some (nodeObj x.2 (prevB xs j) (nextB xs j))
  nd : ∀ (i j : Nat) (x y : Nat × Wt), xs[i]? = some x → xs[j]? = some y → x.1 = y.1 → i = j
  few : xs.length ≤ 100000
theorem QAt.fr {w w' : World} {S F : Nat → Prop} {b : Nat} {xs : List (Nat × Wt)} (h : QAt w S b xs) (hf : Fr F w w') (hd : ∀ k, S k → F k → False) : QAt w' S b xs :=
  ⟨h.own, hf.blk (hd _ h.own) h.blk, fun j x hx => ⟨(h.node j x hx).1, (h.node j x hx).2.1, hf.blk (hd _ (h.node j x hx).1) (h.node j x hx).2.2⟩, h.nd, h.few⟩
theorem QAt.mono {w : World} {S S' : Nat → Prop} {b : Nat} {xs : List (Nat × Wt)} (h : QAt w S b xs) (hs : ∀ k, k < w.heap.size → S k → S' k) : QAt w S' b xs :=
  ⟨hs _ (lt_of_block h.blk) h.own, h.blk, fun j x hx => ⟨hs _ (lt_of_block (h.node j x hx).2.2) (h.node j x hx).1, (h.node j x hx).2⟩, h.nd, h.few⟩
theorem QAt.lt {w : World} {S : Nat → Prop} {b : Nat} {xs : List (Nat × Wt)} (h : QAt w S b xs) (j : Nat) (x : Nat × Wt) (hx : xs[j]? = some x) : x.1 < w.heap.size := lt_of_block (h.node j x hx).2.2
/-- The queue in block b has ws, in order. -/
def WaitAt (w : World) (S : Nat → Prop) (b : Nat) (ws : List Wt) : Prop := ∃ xs, QAt w S b xs ∧ xs.map (·.2) = ws
theorem WaitAt.fr {w w' : World} {S F : Nat → Prop} {b : Nat} {ws : List Wt} (h : WaitAt w S b ws) (hf : Fr F w w') (hd : ∀ k, S k → F k → False) : WaitAt w' S b ws := by
  obtain ⟨xs, h, e⟩ := h; exact ⟨xs, h.fr hf hd, e⟩
theorem WaitAt.fr0 {w w' : World} {S : Nat → Prop} {b : Nat} {ws : List Wt} (h : WaitAt w S b ws) (hf : Fr Nob w w') : WaitAt w' S b ws := h.fr hf fun _ _ q => q
theorem WaitAt.mono {w : World} {S S' : Nat → Prop} {b : Nat} {ws : List Wt} (h : WaitAt w S b ws) (hs : ∀ k, k < w.heap.size → S k → S' k) : WaitAt w S' b ws := by
  obtain ⟨xs, h, e⟩ := h; exact ⟨xs, h.mono hs, e⟩
theorem WaitAt.few {w : World} {S : Nat → Prop} {b : Nat} {ws : List Wt} (h : WaitAt w S b ws) : ws.length ≤ 100000 := by
  obtain ⟨xs, h, rfl⟩ := h; simpa using h.few
theorem WaitAt.own {w : World} {S : Nat → Prop} {b : Nat} {ws : List Wt} (h : WaitAt w S b ws) : S b ∧ b < w.heap.size := by
  obtain ⟨xs, h, rfl⟩ := h; exact ⟨h.own, lt_of_block h.blk⟩
theorem lastB_nil : lastB [] = none := rfl
theorem lastB_pos (xs : List (Nat × Wt)) (n : Nat) (x : Nat × Wt) (hn : xs.length = n + 1) (hx : xs[n]? = some x) : lastB xs = some x.1 := by
  unfold lastB prevB; rw [hn, if_neg (by omega)]; simp [hx]
/-- One behind all. -/
theorem QAt.snoc {w w' : World} {S : Nat → Prop} {b nb : Nat} {xs : List (Nat × Wt)} {x : Wt} (h : QAt w S b xs) (hlt : xs.length < 100000) (hf : Fr S w w') (hnb : w.heap.size ≤ nb)
    (hb : w'.heap[b]? = some (queueObj (firstB (xs ++ [(nb, x)])) (some nb) (xs.length + 1)))
    (hn : w'.heap[nb]? = some (nodeObj x (lastB xs) none))
    (hl : ∀ n y, xs.length = n + 1 → xs[n]? = some y → w'.heap[y.1]? = some (nodeObj y.2 (prevB xs n) (some nb)))
    (ho : ∀ j y, j + 1 < xs.length → xs[j]? = some y → w'.heap[y.1]? = w.heap[y.1]?) : QAt w' (And' S w w') b (xs ++ [(nb, x)]) := by
  refine ⟨.inl h.own, ?_, fun j y hy => ?_, fun i j y z hy hz e => ?_, by simp; omega⟩
  · have e : lastB (xs ++ [(nb, x)]) = some nb := lastB_pos _ xs.length (nb, x) (by simp) (by simp)
    rw [e, hb]; simp
  · rw [List.getElem?_append] at hy
    by_cases hj : j < xs.length
    · rw [if_pos hj] at hy
      obtain ⟨h1, h2, h3⟩ := h.node j y hy
      refine ⟨.inl h1, h2, ?_⟩
      have ep : prevB (xs ++ [(nb, x)]) j = prevB xs j := by
        unfold prevB; split
        · rfl
        · rw [List.getElem?_append_left (by omega)]
      rw [ep]
      by_cases hlast : j + 1 < xs.length
      · have en : nextB (xs ++ [(nb, x)]) j = nextB xs j := by unfold nextB; rw [List.getElem?_append_left (by omega)]
        rw [en, ho j y hlast hy, h3]
      · have hlen : xs.length = j + 1 := by omega
        have en : nextB (xs ++ [(nb, x)]) j = some nb := by unfold nextB; rw [List.getElem?_append_right (by omega), hlen]; simp
        rw [en, hl j y hlen hy]
    · rw [if_neg hj] at hy
      have hj0 : j = xs.length := by
        have := (List.getElem?_eq_some_iff.1 hy).1; simp at this; omega
      subst hj0
      simp at hy
      subst hy
      have hnl := lt_of_block hn
      refine ⟨.inr ⟨hnb, hnl⟩, fun e => ?_, ?_⟩
      · have := lt_of_block h.blk
        simp at e; omega
      · have ep : prevB (xs ++ [(nb, x)]) xs.length = lastB xs := by
          unfold lastB prevB; split
          · rfl
          · rw [List.getElem?_append_left (by omega)]
        have en : nextB (xs ++ [(nb, x)]) xs.length = none := by unfold nextB; rw [List.getElem?_append_right (by omega)]; simp
        rw [ep, en]; exact hn
  · have hlen : (xs ++ [(nb, x)]).length = xs.length + 1 := by simp
    have hi := (List.getElem?_eq_some_iff.1 hy).1
    have hj := (List.getElem?_eq_some_iff.1 hz).1
    rw [List.getElem?_append] at hy hz
    by_cases hi1 : i < xs.length
    · rw [if_pos hi1] at hy
      by_cases hj1 : j < xs.length
      · rw [if_pos hj1] at hz
        exact h.nd i j y z hy hz e
      · rw [if_neg hj1] at hz
        have : z = (nb, x) := by
          have : j - xs.length = 0 := by omega
          rw [this] at hz; simpa using hz.symm
        subst this
        have := h.lt i y hy
        simp at e; omega
    · rw [if_neg hi1] at hy
      have : y = (nb, x) := by
        have : i - xs.length = 0 := by omega
        rw [this] at hy; simpa using hy.symm
      subst this
      by_cases hj1 : j < xs.length
      · rw [if_pos hj1] at hz
        have := h.lt j z hz
        simp at e; omega
      · omega
/-- One is taken out. -/
theorem QAt.erase {w w' : World} {S : Nat → Prop} {b : Nat} {xs : List (Nat × Wt)} (h : QAt w S b xs) (i : Nat) (hi : i < xs.length)
    (hb : w'.heap[b]? = some (queueObj (if i = 0 then nextB xs i else firstB xs) (if i + 1 = xs.length then prevB xs i else lastB xs) (xs.length - 1)))
    (hp : ∀ y, i ≠ 0 → xs[i - 1]? = some y → w'.heap[y.1]? = some (nodeObj y.2 (prevB xs (i - 1)) (nextB xs i)))
    (hn : ∀ y, xs[i + 1]? = some y → w'.heap[y.1]? = some (nodeObj y.2 (prevB xs i) (nextB xs (i + 1))))
    (ho : ∀ j y, xs[j]? = some y → j + 1 ≠ i → j ≠ i → j ≠ i + 1 → w'.heap[y.1]? = w.heap[y.1]?) : QAt w' S b (xs.eraseIdx i) := by
  have hlen : (xs.eraseIdx i).length = xs.length - 1 := by rw [List.length_eraseIdx, if_pos hi]
  have hg : ∀ j, (xs.eraseIdx i)[j]? = if j < i then xs[j]? else xs[j + 1]? := fun j => List.getElem?_eraseIdx ..
  have hnx : ∀ j, nextB (xs.eraseIdx i) j = if j + 1 < i then nextB xs j else nextB xs (j + 1) := fun j => by
    unfold nextB; rw [hg]; split <;> rfl
  have hpv : ∀ j, prevB (xs.eraseIdx i) j = if j ≤ i then prevB xs j else prevB xs (j + 1) := fun j => by
    unfold prevB
    by_cases hj0 : j = 0
    · subst hj0; simp
    · rw [if_neg hj0, hg]
      by_cases hji : j ≤ i
      · rw [if_pos hji, if_neg hj0, if_pos (by omega)]
      · rw [if_neg hji, if_neg (by omega), if_neg (by omega)]
        congr 2
        omega
  refine ⟨h.own, ?_, fun j y hy => ?_, fun a c y z hy hz e => ?_, by have := h.few; omega⟩
  · rw [hb, hlen]
    congr 2
    · unfold firstB
      rw [hg]
      by_cases h0 : i = 0
      · subst h0; simp [nextB]
      · rw [if_neg h0, if_pos (by omega)]
    · unfold lastB
      rw [hlen, hpv]
      by_cases h1 : i + 1 = xs.length
      · rw [if_pos h1, if_pos (by omega)]
        congr 1; omega
      · rw [if_neg h1, if_neg (by omega)]
        congr 1; omega
  · rw [hg] at hy
    by_cases hji : j < i
    · rw [if_pos hji] at hy
      obtain ⟨h1, h2, h3⟩ := h.node j y hy
      refine ⟨h1, h2, ?_⟩
      rw [hnx, hpv, if_pos (by omega : j ≤ i)]
      by_cases hj1 : j + 1 < i
      · rw [if_pos hj1, ho j y hy (by omega) (by omega) (by omega), h3]
      · have hj2 : j = i - 1 := by omega
        rw [if_neg hj1, show j + 1 = i by omega, hj2]
        exact hp y (by omega) (by rw [← hj2]; exact hy)
    · rw [if_neg hji] at hy
      obtain ⟨h1, h2, h3⟩ := h.node (j + 1) y hy
      refine ⟨h1, h2, ?_⟩
      have en : nextB (xs.eraseIdx i) j = nextB xs (j + 1) := by rw [hnx, if_neg (by omega)]
      rw [en]
      by_cases hj1 : j = i
      · have ep : prevB (xs.eraseIdx i) j = prevB xs i := by rw [hpv, if_pos (by omega), hj1]
        rw [ep, hj1]
        rw [hj1] at hy
        exact hn y hy
      · have ep : prevB (xs.eraseIdx i) j = prevB xs (j + 1) := by rw [hpv, if_neg (by omega)]
        rw [ep, ho (j + 1) y hy (by omega) (by omega) (by omega), h3]
  · rw [hg] at hy hz
    by_cases ha : a < i
    · rw [if_pos ha] at hy
      by_cases hc : c < i
      · rw [if_pos hc] at hz; exact h.nd _ _ y z hy hz e
      · rw [if_neg hc] at hz; have := h.nd _ _ y z hy hz e; omega
    · rw [if_neg ha] at hy
      by_cases hc : c < i
      · rw [if_pos hc] at hz; have := h.nd _ _ y z hy hz e; omega
      · rw [if_neg hc] at hz; have := h.nd _ _ y z hy hz e; omega
theorem wait_new (w : World) : Calls Tryz.prog 169 #[] w fun e w' => ∃ b, e = .returned (.pointer (some ⟨b, 0, none⟩)) ∧ Fr Nob w w' ∧ WaitAt w' (fun k => w.heap.size ≤ k ∧ k < w'.heap.size) b [] := by
  go_enter Tryz.func169, Tryz.ntmps169
  go_wp2
  go_ret
  exact ⟨w.heap.size, rfl, (Fr.refl Nob w).alloc _, [], ⟨by simp, heap_alloc_new _ _, fun j x hx => by simp at hx, fun i j x y hx => by simp at hx, by simp⟩, rfl⟩
end Go.Proofs.YtcffplgimbbflaaGreat
