/- What the document's own tree does. -/
import Derived.Test.YtpjkjnejlmmapaaMore
import Derived.Test.YtpjkjnejlmmapaaOpen
import Derived.Test.YtpjkjnejlmmapaaTreePl
import Derived.IntWalk
set_option linter.unusedVariables false
set_option linter.unusedSimpArgs false
namespace Go.Proofs.Ytpjkjnejlmmapaa
open Go.RowKit
set_option maxRecDepth 100000
abbrev rnEn (x : Nd) : List Value := [.int .i64 x.1, .bool x.2]
theorem info_rnode : (Try.prog.info? 75).map (fun i => (i.zero, i.size, i.bytes)) = some (some (.agg #[.int .i64 0, .bool false]), 2, 16) := by kernel_rfl
theorem info_intR : (Try.prog.info? 3).map (fun i => (i.zero, i.size, i.bytes)) = some (some (.int .i64 0), 1, 8) := by kernel_rfl
theorem flat_setR {α : Type} (en : α → List Value) {sz : Nat} (hen : ∀ a, (en a).length = sz) : ∀ (l : List α) (p : Nat) (a a' : α) (j : Nat) (u : Value), l[p]? = some a → j < sz → en a' = (en a).set j u → (l.flatMap en).set (p * sz + j) u = (l.set p a').flatMap en
  | [], p, a, a', j, u, h, _, _ => by simp at h
  | x :: l, 0, a, a', j, u, h, hj, he => by
    simp at h; subst h
    rw [List.set_cons_zero, List.flatMap_cons, List.flatMap_cons, Nat.zero_mul, Nat.zero_add, List.set_append_left _ _ (by rw [hen]; exact hj), he]
  | x :: l, p + 1, a, a', j, u, h, hj, he => by
    rw [List.set_cons_succ, List.flatMap_cons, List.flatMap_cons, List.set_append_right _ _ (by rw [hen, Nat.add_mul]; omega), hen, show (p + 1) * sz + j - sz = p * sz + j by rw [Nat.add_mul]; omega, flat_setR en hen l p a a' j u (by simpa using h) hj he]
/-- The document's tree in block b has ns. -/
def RefT (w : World) (S : Nat → Prop) (b : Nat) (ns : List Nd) : Prop :=
  ∃ v, S b ∧ w.heap[b]? = some (.cells #[v] 64 (0, 0)) ∧ Sl w (fun k => S k ∧ k ≠ b) 75 2 v ns.length (ns.flatMap rnEn) ∧ TreeOk ns ∧ ns.length ≤ 1000
theorem RefT.fr {w w' : World} {S F : Nat → Prop} {b : Nat} {ns : List Nd} (h : RefT w S b ns) (hf : Fr F w w') (hd : ∀ k, S k → F k → False) : RefT w' S b ns := by
  obtain ⟨v, hS, hb, hs, r⟩ := h
  exact ⟨v, hS, hf.blk (hd _ hS) hb, hs.fr hf (fun k q => hd k q.1), r⟩
theorem RefT.fr0 {w w' : World} {S : Nat → Prop} {b : Nat} {ns : List Nd} (h : RefT w S b ns) (hf : Fr Nob w w') : RefT w' S b ns := h.fr hf fun _ _ q => q
theorem RefT.mono {w : World} {S S' : Nat → Prop} {b : Nat} {ns : List Nd} (h : RefT w S b ns) (hs : ∀ k, k < w.heap.size → S k → S' k) : RefT w S' b ns := by
  obtain ⟨v, hS, hb, hsl, r⟩ := h
  exact ⟨v, hs _ (lt_of_block hb) hS, hb, hsl.mono (fun k hk q => ⟨hs k hk q.1, q.2⟩), r⟩
theorem rn_get (ns : List Nd) (i : Nat) (p : Int) (l : Bool) (h : ns[i]? = some (p, l)) : (ns.flatMap rnEn)[i * 2]? = some (.int .i64 p) ∧ (ns.flatMap rnEn)[i * 2 + 1]? = some (.bool l) :=
  ⟨flat_get (sz := 2) rnEn ns (fun _ _ => rfl) i 0 _ h (by omega), flat_get (sz := 2) rnEn ns (fun _ _ => rfl) i 1 _ h (by omega)⟩
theorem kidsTo_snoc (ns : List Nd) (id : Int) (i : Nat) : ((List.range (i + 1)).filter (hangs ns id)).map (fun (j : Nat) => (j : Int)) = ((List.range i).filter (hangs ns id)).map (fun (j : Nat) => (j : Int)) ++ if hangs ns id i = true then [(i : Int)] else [] := by
  rw [List.range_succ, List.filter_append, List.map_append]
  congr 1
  by_cases h : hangs ns id i = true
  · simp [List.filter_cons, h]
  · have h' : hangs ns id i = false := by simpa using h
    simp [List.filter_cons, h']

set_option maxHeartbeats 2000000 in
theorem ref_kids (w : World) (S : Nat → Prop) (b : Nat) (ns : List Nd) (id : Int) (h : RefT w S b ns) :
    Calls Try.prog 45 #[.pointer (some ⟨b, 0, none⟩), .int .i64 id] w fun e w' => ∃ v, e = .returned v ∧ Fr Nob w w' ∧ Sl w' (From w.heap.size) 3 1 v (kids ns id).length (ints (kids ns id)) := by
  obtain ⟨v, hS, hb, hs, ho, hn⟩ := h
  obtain ⟨kt, hkt⟩ : ∃ kt : Nat → List Int, kt = fun i => ((List.range i).filter (hangs ns id)).map (fun (j : Nat) => (j : Int)) := ⟨_, rfl⟩
  have hk0 : kt 0 = [] := by rw [hkt]; rfl
  have hka : kt ns.length = kids ns id := by rw [hkt]; rfl
  have hky : ∀ i, hangs ns id i = true → kt i ++ [(i : Int)] = kt (i + 1) := fun i hi => by rw [hkt]; show _ = List.map _ _; rw [kidsTo_snoc, if_pos hi]
  have hkn : ∀ i, hangs ns id i = false → kt i = kt (i + 1) := fun i hi => by rw [hkt]; show _ = List.map _ _; rw [kidsTo_snoc, if_neg (by simp [hi])]; simp
  have hkl : ∀ i, (kt i).length ≤ i := fun i => by rw [hkt]; show (List.map _ _).length ≤ i; rw [List.length_map]; simpa using List.length_filter_le (hangs ns id) (List.range i)
  have hhg : ∀ i p l, ns[i]? = some (p, l) → hangs ns id i = (l && p == id) := fun i p l hi => by simp [hangs, hi]
  have hget : ∀ i, i < ns.length → ∃ p l, ns[i]? = some (p, l) := fun i hi => ⟨ns[i].1, ns[i].2, by simp [hi]⟩
  have c0 := blk_cell hb 0 rfl
  have lb := lt_of_block hb
  rw [← hka]
  have Hk0 := Lib.hid hk0; have Hky := Lib.hid hky; have Hkn := Lib.hid hkn; have Hkl := Lib.hid hkl; have Hhg := Lib.hid hhg; have Hget := Lib.hid hget; have Hs := Lib.hid hs; have Hc0 := Lib.hid c0
  obtain ⟨A, c, rfl⟩ := hs.slice
  clear hkt hk0 hka hky hkn hkl hhg hget hs hb ho c0
  generalize hnn : ns.length = n at *
  clear hnn
  have hc0 := Hc0.out
  go_enter Try.func45, Try.ntmps45
  go_wp2_with fail
  go_loopw [5, 6] (fun o i wr => ∃ k : Nat, k ≤ n ∧ i = .int .i64 k ∧ Fr (From w.heap.size) w wr ∧ Sl wr (From w.heap.size) 3 1 o (kt k).length (ints (kt k))) (fun _ i _ => n - (intOf i).toNat)
  case atStart => exact ⟨0, Nat.zero_le _, rfl, Fr.refl _ _, by rw [Hk0.out]; exact Sl.nil _ _ _ _⟩
  case round =>
    obtain ⟨k, hk, rfl, hfr, hsl⟩ := hrel
    clear hc0
    have d0 := hfr.cell (p := ⟨b, 0, none⟩) (by simp [From]; omega) Hc0.out
    have Hfr := Lib.hid hfr; have Hsl := Lib.hid hsl
    obtain ⟨Ak, ck, rfl⟩ := hsl.slice
    clear hfr hsl
    by_cases hlt : k < n
    · obtain ⟨p, l, hpl⟩ := Hget.out k hlt
      obtain ⟨q1, q2⟩ := rn_get ns k p l hpl
      have hh := Hhg.out k p l hpl
      obtain ⟨g, off, cap, hv, hSg, hg, hcap, hmax, hcell, _⟩ := Hs.out.form (by omega)
      cases hv
      have e0 := Hfr.out.cell (p := ⟨g, off + k * 2, none⟩) (by simp [From]; omega) (hcell _ _ q1)
      have e1 := Hfr.out.cell (p := ⟨g, off + (k * 2 + 1), none⟩) (by simp [From]; omega) (hcell _ _ q2)
      rw [← Nat.add_assoc] at e1
      have e1' : wr.cell? ⟨g, off + k * 2 + 1, none⟩ = some (.bool l) := e1
      have hkle := Hkl.out k
      clear hcell q1 q2 hpl e1
      have hik : (k : Int) < n := by omega
      by_cases hl : l = true
      · subst hl
        by_cases hpi : p = id
        · subst hpi
          have hyes : hangs ns p k = true := by rw [hh]; simp
          have Hyes := Lib.hid (Hky.out k hyes)
          have hpp : (p == p) = true := by simp
          clear hh hyes
          go_wp2_with (at_builtin; refine wpList_append1 _ rfl _ _ _ rfl (From w.heap.size) 3 _ 1 8 Try.underlying26 info_intR rfl (by omega) (.slice Ak (kt k).length ck) (kt k).length (ints (kt k)) [.int .i64 (k : Int)] rfl Hsl.out rfl rfl rfl (by omega) (by omega) ?_; intro v3 w3 hs3 hf3 hz3)
          have hs4 : Sl w3 (From w.heap.size) 3 1 v3 (kt (k + 1)).length (ints (kt (k + 1))) := by
            rw [← Hyes.out]
            have hsz := Hfr.out.size
            simpa [ints] using hs3.mono (fun j hj q => by rcases q with q | q; exact q; (try simp at q); unfold From; omega)
          have Hs4 := Lib.hid hs4
          have Hf4 := Lib.hid (Hfr.out.trans0 hf3)
          clear hs3 hf3 hz3 hs4
          go_wp2_with fail
          go_roundw
          case rel => exact ⟨k + 1, by omega, by go_num, Hf4.out, Hs4.out⟩
          case measure => simp [intOf]; omega
        · have hno : hangs ns id k = false := by rw [hh]; simp [hpi]
          have Hno := Lib.hid (Hkn.out k hno)
          have hpp : (p == id) = false := by simp [hpi]
          clear hh hno hpi
          go_wp2_with fail
          go_roundw
          case rel => exact ⟨k + 1, by omega, by go_num, Hfr.out, by rw [← Hno.out]; exact Hsl.out⟩
          case measure => simp [intOf]; omega
      · obtain rfl : l = false := by simpa using hl
        have hno : hangs ns id k = false := by rw [hh]; simp
        have Hno := Lib.hid (Hkn.out k hno)
        clear hh hno hl
        go_wp2_with fail
        go_roundw
        case rel => exact ⟨k + 1, by omega, by go_num, Hfr.out, by rw [← Hno.out]; exact Hsl.out⟩
        case measure => simp [intOf]; omega
    · obtain rfl : k = n := by omega
      go_wp2_with fail
      go_ret
      exact ⟨_, rfl, Hfr.out.mono fun j hj q => by unfold From at q; omega, Hsl.out⟩

theorem ref_tree_bad (w : World) (S : Nat → Prop) (b : Nat) (ns : List Nd) (p : Int) (l : Bool) (h : RefT w S b ns) (hp : p < -1 ∨ (ns.length : Int) ≤ p) :
    Calls Try.prog 38 #[.pointer (some ⟨b, 0, none⟩), .int .i64 p, .bool l] w fun e w' => e = .returned (.tuple #[.int .i64 0, .int .i64 1]) ∧ Fr Nob w w' := by
  obtain ⟨v, hS, hb, hs, ho, hn⟩ := h
  obtain ⟨A, c, rfl⟩ := hs.slice
  have c0 := blk_cell hb 0 rfl
  clear hs ho hb
  generalize ns.length = n at *
  rcases hp with hp | hp
  · go_enter Try.func38, Try.ntmps38
    go_wp2_with fail
    go_ret2
    exact ⟨rfl, Fr.refl _ _⟩
  · have hp2 : ¬ p < -1 := by omega
    go_enter Try.func38, Try.ntmps38
    go_wp2_with fail
    go_ret2
    exact ⟨rfl, Fr.refl _ _⟩
theorem ref_tree_full (w : World) (S : Nat → Prop) (b : Nat) (ns : List Nd) (p : Int) (l : Bool) (h : RefT w S b ns) (hp : -1 ≤ p) (hp2 : p < (ns.length : Int)) (hf : 1000 ≤ ns.length) :
    Calls Try.prog 38 #[.pointer (some ⟨b, 0, none⟩), .int .i64 p, .bool l] w fun e w' => e = .returned (.tuple #[.int .i64 0, .int .i64 3]) ∧ Fr Nob w w' := by
  obtain ⟨v, hS, hb, hs, ho, hn⟩ := h
  obtain ⟨A, c, rfl⟩ := hs.slice
  have c0 := blk_cell hb 0 rfl
  clear hs ho hb
  generalize ns.length = n at *
  have h1 : ¬ p < -1 := by omega
  have h2 : ¬ (n : Int) ≤ p := by omega
  have h3 : (1000 : Int) ≤ n := by omega
  go_enter Try.func38, Try.ntmps38
  go_wp2_with fail
  go_ret2
  exact ⟨rfl, Fr.refl _ _⟩
set_option maxHeartbeats 1000000 in
theorem ref_tree_add (w : World) (S : Nat → Prop) (b : Nat) (ns : List Nd) (p : Int) (l : Bool) (n : Nat) (hnn : ns.length = n) (h : RefT w S b ns) (hp : -1 ≤ p) (hp2 : p < (n : Int)) (hf : n < 1000) :
    Calls Try.prog 38 #[.pointer (some ⟨b, 0, none⟩), .int .i64 p, .bool l] w fun e w' => e = .returned (.tuple #[.int .i64 (n : Int), .int .i64 0]) ∧ Fr S w w' ∧ RefT w' (And' S w w') b (ns ++ [(p, l && decide (0 ≤ p))]) := by
  obtain ⟨v, hS, hb, hs, ho, hn⟩ := h
  rw [hnn] at hs
  obtain ⟨A, c, rfl⟩ := hs.slice
  have hok := ok_snoc ns ho p (l && decide (0 ≤ p)) hp (by omega) (by simp)
  have c0 := blk_cell hb 0 rfl
  have f0 := blk_froz hb 0
  have lb := lt_of_block hb
  have Hb := Lib.hid hb; have Hs := Lib.hid hs; have Hok := Lib.hid hok; have Hnn := Lib.hid hnn
  clear hs ho hb hok hnn hn
  have h1 : ¬ p < -1 := by omega
  have h2 : ¬ (n : Int) ≤ p := by omega
  have h3 : ¬ (1000 : Int) ≤ n := by omega
  have hfin : ∀ w1 v1, Sl w1 (fun k => (S k ∧ k ≠ b) ∨ w.heap.size ≤ k) 75 2 v1 (n + 1) (ns.flatMap rnEn ++ rnEn (p, l && decide (0 ≤ p))) → Fr (fun k => S k ∧ k ≠ b) w w1 → 
      Fr S w (w1.setCell ⟨b, 0, none⟩ v1) ∧ RefT (w1.setCell ⟨b, 0, none⟩ v1) (And' S w (w1.setCell ⟨b, 0, none⟩ v1)) b (ns ++ [(p, l && decide (0 ≤ p))]) := by
    intro w1 v1 hs1 hf1
    have hb1 := hf1.blk (fun q => q.2 rfl) Hb.out
    have hz : (w1.setCell ⟨b, 0, none⟩ v1).heap.size = w1.heap.size := by simp
    refine ⟨(hf1.mono fun k _ q => q.1).setCell (.inl hS) _, v1, .inl hS, blk_set hb1 0 _, ?_, Hok.out, by simp [Hnn.out]; omega⟩
    rw [List.flatMap_append, List.length_append, Hnn.out]
    have hs2 := hs1.fr ((Fr.refl (fun k => k = b) w1).setCell (p := ⟨b, 0, none⟩) (.inl rfl) v1) (fun k q e => by rcases q with q | q; exact q.2 e; have : k = b := e; omega)
    simpa using hs2.mono (fun k hk q => by rcases q with q | q; exact ⟨.inl q.1, q.2⟩; exact ⟨.inr ⟨q, hk⟩, by omega⟩)
  have Hfin := Lib.hid hfin; clear hfin
  cases l with
  | false =>
    go_enter Try.func38, Try.ntmps38
    go_wp2_with (at_builtin; refine wpList_append1 _ rfl _ _ _ rfl (fun k => S k ∧ k ≠ b) 75 _ 2 16 Try.underlying62 info_rnode rfl (by omega) (.slice A n c) n (ns.flatMap rnEn) [.int .i64 p, .bool false] rfl Hs.out rfl rfl rfl (by omega) (by omega) ?_; intro v3 w3 hs3 hf3 hz3; obtain ⟨A3, c3, rfl⟩ := hs3.slice; have hb3 := hf3.blk (fun q => q.2 rfl) Hb.out; have c3' := blk_cell hb3 0 rfl; have f3' := blk_froz hb3 0; have Hs3 := Lib.hid hs3; have Hf3 := Lib.hid hf3; clear hs3 hf3 hb3)
    go_ret2
    exact ⟨by go_num, Hfin.out _ _ Hs3.out Hf3.out⟩
  | true =>
    by_cases h0 : 0 ≤ p
    · have hd : decide (0 ≤ p) = true := by simp [h0]
      rw [hd, Bool.and_true] at Hfin ⊢
      go_enter Try.func38, Try.ntmps38
      go_wp2_with (at_builtin; refine wpList_append1 _ rfl _ _ _ rfl (fun k => S k ∧ k ≠ b) 75 _ 2 16 Try.underlying62 info_rnode rfl (by omega) (.slice A n c) n (ns.flatMap rnEn) [.int .i64 p, .bool true] rfl Hs.out rfl rfl rfl (by omega) (by omega) ?_; intro v3 w3 hs3 hf3 hz3; obtain ⟨A3, c3, rfl⟩ := hs3.slice; have hb3 := hf3.blk (fun q => q.2 rfl) Hb.out; have c3' := blk_cell hb3 0 rfl; have f3' := blk_froz hb3 0; have Hs3 := Lib.hid hs3; have Hf3 := Lib.hid hf3; clear hs3 hf3 hb3)
      go_ret2
      exact ⟨by go_num, Hfin.out _ _ Hs3.out Hf3.out⟩
    · have hd : decide (0 ≤ p) = false := by simp; omega
      rw [hd, Bool.and_false] at Hfin ⊢
      go_enter Try.func38, Try.ntmps38
      go_wp2_with (at_builtin; refine wpList_append1 _ rfl _ _ _ rfl (fun k => S k ∧ k ≠ b) 75 _ 2 16 Try.underlying62 info_rnode rfl (by omega) (.slice A n c) n (ns.flatMap rnEn) [.int .i64 p, .bool false] rfl Hs.out rfl rfl rfl (by omega) (by omega) ?_; intro v3 w3 hs3 hf3 hz3; obtain ⟨A3, c3, rfl⟩ := hs3.slice; have hb3 := hf3.blk (fun q => q.2 rfl) Hb.out; have c3' := blk_cell hb3 0 rfl; have f3' := blk_froz hb3 0; have Hs3 := Lib.hid hs3; have Hf3 := Lib.hid hf3; clear hs3 hf3 hb3)
      go_ret2
      exact ⟨by go_num, Hfin.out _ _ Hs3.out Hf3.out⟩

theorem ref_tree_off_no (w : World) (S : Nat → Prop) (b : Nat) (ns : List Nd) (id : Int) (h : RefT w S b ns) (hno : id < 0 ∨ (ns.length : Int) ≤ id ∨ ∃ p, ns[id.toNat]? = some (p, false)) :
    Calls Try.prog 40 #[.pointer (some ⟨b, 0, none⟩), .int .i64 id] w fun e w' => e = .returned (.bool false) ∧ Fr Nob w w' := by
  obtain ⟨v, hS, hb, hs, ho, hn⟩ := h
  have c0 := blk_cell hb 0 rfl
  have Hs := Lib.hid hs
  obtain ⟨A, c, rfl⟩ := hs.slice
  clear hs ho hb
  generalize hnn : ns.length = n at *
  have Hnn := Lib.hid hnn; clear hnn
  by_cases h0 : id < 0
  · clear hno
    go_enter Try.func40, Try.ntmps40
    go_wp2_with fail
    go_ret
    exact ⟨rfl, Fr.refl _ _⟩
  · by_cases h1 : (n : Int) ≤ id
    · clear hno
      go_enter Try.func40, Try.ntmps40
      go_wp2_with fail
      go_ret
      exact ⟨rfl, Fr.refl _ _⟩
    · obtain ⟨i, rfl⟩ := Int.eq_ofNat_of_zero_le (show 0 ≤ id by omega)
      obtain ⟨p, hp⟩ : ∃ p, ns[i]? = some (p, false) := by
        rcases hno with q | q | q
        · omega
        · omega
        · simpa using q
      obtain ⟨q1, q2⟩ := rn_get ns i p false hp
      obtain ⟨g, off, cap, hv, hSg, hg, hcap, hmax, hcell, _⟩ := Hs.out.form (by omega)
      cases hv
      have e1 := hcell _ _ q2
      rw [← Nat.add_assoc] at e1
      have e1' : w.cell? ⟨g, off + i * 2 + 1, none⟩ = some (.bool false) := e1
      clear hno hcell q1 q2 hp e1
      have hin : (i : Int) < n := by omega
      go_enter Try.func40, Try.ntmps40
      go_wp2_with fail
      go_ret
      exact ⟨rfl, Fr.refl _ _⟩
set_option maxHeartbeats 800000 in
theorem ref_tree_off (w : World) (S : Nat → Prop) (b : Nat) (ns : List Nd) (i : Nat) (p : Int) (h : RefT w S b ns) (hi : ns[i]? = some (p, true)) :
    Calls Try.prog 40 #[.pointer (some ⟨b, 0, none⟩), .int .i64 (i : Int)] w fun e w' => e = .returned (.bool true) ∧ Fr S w w' ∧ RefT w' S b (ns.set i (p, false)) := by
  obtain ⟨v, hS, hb, hs, ho, hn⟩ := h
  have hil := (List.getElem?_eq_some_iff.1 hi).1
  have hok := ok_set ns ho i p hi
  have c0 := blk_cell hb 0 rfl
  obtain ⟨A, c, rfl⟩ := hs.slice
  obtain ⟨q1, q2⟩ := rn_get ns i p true hi
  obtain ⟨g, off, cap, hv, hSg, hg, hcap, hmax, hcell, hfz⟩ := hs.form (by omega)
  cases hv
  have e1 := hcell _ _ q2
  rw [← Nat.add_assoc] at e1
  have e1' : w.cell? ⟨g, off + i * 2 + 1, none⟩ = some (.bool true) := e1
  have f1 := hfz (off + i * 2 + 1)
  have hset := hs.set (i * 2 + 1) (by omega) (.bool false)
  have hfs : (ns.flatMap rnEn).set (i * 2 + 1) (.bool false) = (ns.set i (p, false)).flatMap rnEn := by
    exact flat_setR rnEn (fun _ => rfl) ns i (p, true) (p, false) 1 (.bool false) hi (by omega) rfl
  rw [hfs, ← Nat.add_assoc] at hset
  have hlen : (ns.set i (p, false)).length = ns.length := by simp
  have hfin : Fr S w (w.setCell ⟨g, off + i * 2 + 1, none⟩ (.bool false)) ∧ RefT (w.setCell ⟨g, off + i * 2 + 1, none⟩ (.bool false)) S b (ns.set i (p, false)) := by
    refine ⟨(Fr.refl S w).setCell (.inl hSg.1) _, .slice (some ⟨g, off, none⟩) ns.length c, hS, ?_, ?_, hok, by rw [hlen]; exact hn⟩
    · rw [blk_set_ne _ _ (fun e => hSg.2 e.symm)]; exact hb
    · rw [hlen]; exact hset
  have Hfin := Lib.hid hfin
  clear hfin hset hfs hok hcell q1 q2 e1 hs ho hb hi hlen hfz
  generalize ns.length = n at *
  have hin : (i : Int) < n := by omega
  go_enter Try.func40, Try.ntmps40
  go_wp2_with fail
  go_ret
  exact ⟨rfl, Hfin.out⟩

theorem ref_walk_out (w : World) (S : Nat → Prop) (b : Nat) (ns : List Nd) (id : Int) (h : RefT w S b ns) (hno : id < 0 ∨ (ns.length : Int) ≤ id) :
    Calls Try.prog 43 #[.pointer (some ⟨b, 0, none⟩), .int .i64 id] w fun e w' => e = .returned (.slice none 0 0) ∧ Fr Nob w w' := by
  obtain ⟨v, hS, hb, hs, ho, hn⟩ := h
  have c0 := blk_cell hb 0 rfl
  obtain ⟨A, c, rfl⟩ := hs.slice
  clear hs ho hb
  generalize ns.length = n at *
  by_cases h0 : id < 0
  · go_enter Try.func43, Try.ntmps43
    go_wp2_with fail
    go_ret
    exact ⟨rfl, Fr.refl _ _⟩
  · have h1 : (n : Int) ≤ id := by omega
    go_enter Try.func43, Try.ntmps43
    go_wp2_with fail
    go_ret
    exact ⟨rfl, Fr.refl _ _⟩
set_option maxHeartbeats 2000000 in
theorem ref_walk (b : Nat) (ns : List Nd) : ∀ (f : Nat) (id : Nat) (w : World) (S : Nat → Prop), ns.length ≤ id + f → id < ns.length → RefT w S b ns →
    Calls Try.prog 43 #[.pointer (some ⟨b, 0, none⟩), .int .i64 (id : Int)] w fun e w' => ∃ v, e = .returned v ∧ Fr Nob w w' ∧ Sl w' (From w.heap.size) 3 1 v (walk ns id).length (ints (walk ns id)) := by
  intro f
  induction f with
  | zero => intro id w S h1 h2; omega
  | succ f ih =>
    intro id w S h1 h2 h
    have IH := Lib.hid ih
    have H := Lib.hid (h.mono (S' := fun k => S k ∧ k < w.heap.size) fun k hk q => ⟨q, hk⟩)
    obtain ⟨v, hS, hb, hs, ho, hn⟩ := h
    have c0 := blk_cell hb 0 rfl
    obtain ⟨A, c, rfl⟩ := hs.slice
    have hw0 := walkTo_zero ns id
    have hwa := walkTo_all ns ho id
    have hws := walkTo_succ ns id
    have hwl := fun j => walkTo_le ns ho id j h2
    have hkg : ∀ (j : Nat), j < (kids ns id).length → ∃ c, (kidsN ns id)[j]? = some c ∧ (ints (kids ns id))[j]? = some (.int .i64 (c : Int)) ∧ id < c ∧ c < ns.length ∧ (walk ns c).length ≤ ns.length := fun j hj => by
      rw [kids_len] at hj
      have hm := List.getElem_mem hj
      refine ⟨(kidsN ns id)[j], by simp [hj], by simp [kids, hj], kidsN_gt ns ho id _ hm, kidsN_lt ns id _ hm, walk_len ns ho _ (kidsN_lt ns id _ hm)⟩
    have hkl : (kids ns id).length ≤ ns.length := by rw [kids_len]; exact kidsN_le ns id
    have hkk : (kids ns id).length = (kidsN ns id).length := kids_len ns id
    rw [← hkk] at hwa
    have hkids := fun w' (hf : Fr Nob w w') => ref_kids w' _ b ns id (H.out.fr0 hf)
    rw [← hwa]
    have Hw0 := Lib.hid hw0; have Hws := Lib.hid hws; have Hwl := Lib.hid hwl; have Hkg := Lib.hid hkg; have Hkids := Lib.hid hkids
    clear hs ho hb hw0 hwa hws hwl hkg hkids hkk ih
    have h3 : ¬ (ns.length : Int) ≤ id := by omega
    have h4 : (id : Int) < ns.length := by omega
    generalize hnn : ns.length = n at *
    clear hnn
    generalize hwt : walkTo ns id = wt at *
    clear hwt
    generalize hkk : kids ns id = kk at *
    clear hkk
    generalize hkm : kk.length = m at *
    have Hkm := Lib.hid hkm
    clear hkm
    go_enter Try.func43, Try.ntmps43
    go_wp2_with fail
    have hl1 : Sl (w.alloc (.cells #[.int .i64 (id : Int)] 3)) (fun k => k = w.heap.size) 3 1 (.slice (some ⟨w.heap.size, 0, none⟩) 1 1) 1 (ints (wt 0)) := by
      rw [Hw0.out]; exact Sl.lit w 3 1 #[.int .i64 (id : Int)] 1 _ rfl (by simp [maxLen]) rfl
    have hf1 : Fr Nob w (w.alloc (.cells #[.int .i64 (id : Int)] 3)) := (Fr.refl _ _).alloc _
    have Hl1 := Lib.hid hl1; have Hf1 := Lib.hid hf1
    clear hl1 hf1
    refine (Hkids.out _ Hf1.out).mono ?_
    rintro e w2 ⟨vk, rfl, hf2, hs2⟩
    obtain ⟨Ak, ck, rfl⟩ := hs2.slice
    have hz1 : (w.alloc (.cells #[.int .i64 (id : Int)] 3)).heap.size = w.heap.size + 1 := by simp
    rw [hz1] at hs2
    have hz2 := hf2.size
    rw [hz1] at hz2
    have Hl2 := Lib.hid (Hl1.out.fr hf2 fun _ _ q => q); have Hk2 := Lib.hid (hs2.mono (S' := fun k => w.heap.size + 1 ≤ k ∧ k < w2.heap.size) fun k hk q => ⟨q, hk⟩); have Hf2 := Lib.hid (Hf1.out.trans0 hf2)
    have ht2 : Two w.heap.size w2 (fun k => k = w.heap.size) (fun k => w.heap.size + 1 ≤ k ∧ k < w2.heap.size) := ⟨fun k q => by omega, fun k q => by omega, fun k p q => by omega⟩
    have hw1 : (wt 0).length = 1 := by rw [Hw0.out]; rfl
    have Hw1 := Lib.hid hw1
    obtain ⟨SK, hSK⟩ : ∃ SK : Nat → Prop, SK = fun k => w.heap.size + 1 ≤ k ∧ k < w2.heap.size := ⟨_, rfl⟩
    rw [← hSK] at Hk2 ht2
    have Ht2 := Lib.hid ht2
    clear hf2 hs2 Hl1 Hf1 hSK ht2 hw1 hz1
    go_wp2_with fail
    go_loopw [5, 7] (fun o i wr => ∃ (k : Nat) (SL : Nat → Prop), k ≤ m ∧ i = .int .i64 k ∧ Fr (From w.heap.size) w wr ∧ Two w.heap.size wr SL SK ∧ Sl wr SL 3 1 o (wt k).length (ints (wt k)) ∧ Sl wr SK 3 1 (.slice Ak m ck) m (ints kk)) (fun _ i _ => m - (intOf i).toNat)
    case atStart => exact ⟨0, _, Nat.zero_le _, rfl, Hf2.out.none, Ht2.out, by rw [Hw1.out]; exact Hl2.out, Hk2.out⟩
    case round =>
      obtain ⟨k, SL, hk, rfl, hfr, htw, hsl, hsk⟩ := hrel
      clear Hf2 Ht2 Hl2 Hk2
      obtain ⟨Al, cl, rfl⟩ := hsl.slice
      have Hfr := Lib.hid hfr; have Htw := Lib.hid htw; have Hsl := Lib.hid hsl; have Hsk := Lib.hid hsk
      clear hfr htw hsl hsk
      by_cases hlt : k < m
      · obtain ⟨c, hc1, hc2, hc3, hc4, hc5⟩ := Hkg.out k hlt
        obtain ⟨g, off, cap, hv, hSg, hg, hcap, hmax, hcell, _⟩ := Hsk.out.form (by omega)
        cases hv
        have e1 := hcell _ _ hc2
        have hsucc := Hws.out k c hc1
        have hlen := Hwl.out k
        have Hsucc := Lib.hid hsucc
        have hrec := IH.out c wr _ (by omega) (by omega) (H.out.fr Hfr.out fun j q r => by unfold From at r; omega)
        have Hrec := Lib.hid hrec
        clear hcell hc1 hc2 hsucc hrec
        go_wp2_with fail
        refine Hrec.out.mono ?_
        rintro e w3 ⟨v3, rfl, hf3, hs3⟩
        obtain ⟨A3, c3, rfl⟩ := hs3.slice
        have Hf3 := Lib.hid hf3; have Hs3 := Lib.hid hs3
        have Hl3 := Lib.hid (Hsl.out.fr hf3 fun _ _ q => q)
        clear hf3 hs3
        go_wp2_with (at_builtin; refine wpList_append_rd _ rfl _ _ _ rfl SL 3 _ 1 8 Try.underlying26 info_intR rfl (by omega) (.slice Al (wt k).length cl) (wt k).length (ints (wt k)) rfl Hl3.out _ (walk ns c).length (ints (walk ns c)) rfl Hs3.out.rd (ints_one _) (by omega) (by omega) ?_; intro v4 w4 hs4 hf4)
        have hs5 : Sl w4 (And' SL w3 w4) 3 1 v4 (wt (k + 1)).length (ints (wt (k + 1))) := by
          rw [Hsucc.out, List.length_append]; simpa [ints] using hs4.mono (fun j hj q => there j hj q)
        obtain ⟨A4, c4, rfl⟩ := hs5.slice
        have hz4 := hf4.size
        have hz3 : w.heap.size ≤ w3.heap.size := Nat.le_trans Hfr.out.size Hf3.out.size
        have Hs5 := Lib.hid hs5
        have Ht5 := Lib.hid ((Htw.out.fr Hf3.out).growL hz4 hz3)
        have Hk5 := Lib.hid ((Hsk.out.fr Hf3.out fun _ _ q => q).fr hf4 fun j p q => Htw.out.dis j q p)
        have Hf5 := Lib.hid ((Hfr.out.trans0 Hf3.out.none).trans0 (hf4.mono fun j _ q => (Htw.out.l j q).1))
        clear hs4 hf4 hs5 hz4 hz3
        go_wp2_with fail
        go_roundw
        case rel => exact ⟨k + 1, _, by omega, by go_num, Hf5.out, Ht5.out, Hs5.out, Hk5.out⟩
        case measure => simp [intOf]; omega
      · obtain rfl : k = m := by omega
        go_wp2_with fail
        go_ret
        exact ⟨_, rfl, Hfr.out.mono fun j hj q => by unfold From at q; omega, Hsl.out.mono fun j hj q => (Htw.out.l j q).1⟩
end Go.Proofs.Ytpjkjnejlmmapaa
