/- What Remove, Can and Put of the document's own channel do. -/
import Derived.Test.YtdemeghhjnehbaaRefFind
import Derived.Deep.RegionWith
set_option linter.unusedVariables false
set_option linter.unusedSimpArgs false
namespace Go.Proofs.Ytdemeghhjnehbaa
open Go.RowKit
set_option maxRecDepth 100000
/-- A call of a Go function as one step of a region that draws (go_region_law). -/
theorem step_call {P : Program} {ops : Array Oper} {o : Oper} {a : Act} {K : Act → World → Prop} {Q : Exit → Act → World → Prop} {E : Prop} (w : World) (hg : o.guard = none) (f : FuncId) (x : Array Operand) (ts : Array TypeId)
    (ho : o.op = .call { callee := .value (.func f), args := x, argTypes := ts }) (fn : Func) (hfn : P.funcs[f]? = some fn) (hnm : fn.name ≠ "runtime.NumGoroutine") (hb : fn.body ≠ none) (args : Array Value) (hx : x.map a.eval = args) (R : Ending → World → Prop) (hc : Calls P f args w R) (h : ∀ e w', R e w' → ∃ v, e = .returned v ∧ K (a.put o.dst v) w') :
    if Region.wanted o (yielded ops a.tmps) = true then Oper.wp P o a w K Q else E := by
  have hw : Region.wanted o (yielded ops a.tmps) = true := by simp [Region.wanted, hg]
  rw [if_pos hw]
  have hrun : (callFunc f (args ++ #[])).run P w = .ok (.enter f args) w := by
    simp [callFunc, go_sem, hfn, hnm, hb]
  unfold Oper.wp execOp
  simp only [ho, resolve, invoke, Sem.run_bind, Sem.run_pure, Result.andThen_ok, hx]
  have e : a.eval (.func f) = .func (.func f) #[] #[] := rfl
  rw [e]
  simp only [Deferred.ofValue, Sem.run_bind, Sem.run_pure, Result.andThen_ok, Array.empty_append, hrun]
  simp only [Oper.upon]
  refine Calls.mono hc fun e w' he => ?_
  obtain ⟨v, rfl, hk⟩ := h e w' he
  exact hk
theorem RfTo.make3 {w w' : World} {S : Nat → Prop} {b : Nat} {c c' : ChS} {v1 v2 v3 u1 u2 u3 : Value} (h : RfP w S b c v1 v2 v3) (hf : Fr (fun k => k = b) w w') (hb : w'.heap[b]? = some (refObj c' u1 u2 u3))
    (hu1 : u1 = v1) (hq : c'.q = c.q) (hs : Sl w' (From w.heap.size) 63 3 u2 c'.sd.length (waits c'.sd)) (hr : Sl w' (From w.heap.size) 63 3 u3 c'.rv.length (waits c'.rv)) : RfTo w S b c' w' := by
  have hbl := lt_of_block h.blk
  subst hu1
  refine ⟨hf.mono fun k _ e => e ▸ h.own, And' S w w', ⟨u1, u2, u3, .inl h.own, fun k q => ?_, hb, ?_, hs.mono fun k hk q => ⟨.inr ⟨q, hk⟩, by unfold From at q; omega⟩, hr.mono fun k hk q => ⟨.inr ⟨q, hk⟩, by unfold From at q; omega⟩⟩, fun k q => by rcases q with q | q; exact .inl q; exact .inr q.1⟩
  · rcases q with q | q
    · have := h.lt k q; have := hf.size; omega
    · exact q.2
  · rw [hq]; exact (h.buf.fr hf fun k q e => q.2 e).mono fun k hk q => ⟨.inl q.1, q.2⟩
set_option maxHeartbeats 20000000 in
theorem ref_remove {w : World} {S : Nat → Prop} {b : Nat} {c : ChS} (h : RefAt w S b c) (hfew : c.Few) (t : Int) (n : Nat) (c' : ChS) (hn : c.removeR t = n) (hs : c.removeS t = c') :
    Calls Try.prog 52 #[.pointer (some ⟨b, 0, none⟩), .int .i64 t] w fun e w' => e = .returned (.int .i64 (n : Int)) ∧ RfTo w S b c' w' := by
  subst hs
  obtain ⟨v1, v2, v3, h⟩ := h
  have hmk := fun W (hf : Fr (fun k => k = b) w W) u2 u3 (hb : W.heap[b]? = some (refObj (c.removeS t) v1 u2 u3)) h2 h3 => RfTo.make3 h hf hb rfl rfl h2 h3
  obtain ⟨A1, c1, A2, c2, A3, c3, rfl, rfl, rfl, p0, p1, p2, p3, p4, p5, p6⟩ := h.cells
  have hR2 := h.sd.rd; have hR3 := h.rv.rd
  obtain ⟨m2, hm2⟩ : ∃ m2, c.sd.length = m2 := ⟨_, rfl⟩
  obtain ⟨m3, hm3⟩ : ∃ m3, c.rv.length = m3 := ⟨_, rfl⟩
  have hb := h.blk
  have hbl := lt_of_block hb
  rw [hm2] at p5 hR2; rw [hm3] at p6 hR3
  rw [hm2, hm3] at hb
  have hl2 : m2 ≤ 1000 := by have := hfew.2.1; omega
  have hl3 : m3 ≤ 1000 := by have := hfew.1; omega
  have hw2 := fun W (hW : Fr Nob w W) => ref_without W _ c.sd m2 hm2 hl2 t (hR2.fr hW)
  have hw3 := fun W (hW : Fr Nob w W) => ref_without W _ c.rv m3 hm3 hl3 t (hR3.fr hW)
  have hle2 := notT_le c.sd t; have hle3 := notT_le c.rv t
  rw [hm2] at hle2; rw [hm3] at hle3
  obtain ⟨s, hs⟩ : ∃ s : Int, s = (m2 : Int) + m3 := ⟨_, rfl⟩
  have k1 : IntKind.i64.wrap ((m2 : Int) + m3) = s := by rw [hs]; exact IntWalk.i64_in _ (by omega)
  have hfin : ∀ (p q : Nat), (notT c.sd t).length = p → (notT c.rv t).length = q → IntKind.i64.wrap (s - (p : Int)) = s - p ∧ IntKind.i64.wrap (s - p - (q : Int)) = (n : Int) := fun p q hp hq => by
    unfold ChS.removeR at hn
    exact ⟨IntWalk.i64_in _ (by omega), by rw [IntWalk.i64_in _ (by omega)]; omega⟩
  have Hmk := Lib.hid hmk; have Hb := Lib.hid hb; have Hw2 := Lib.hid hw2; have Hw3 := Lib.hid hw3; have Hfin := Lib.hid hfin
  clear hmk hb hw2 hw3 hfin hR2 hR3 h hm2 hm3 hfew hs hn hle2 hle3 p0 p1 p2 p3 p4
  go_enter Try.func52, Try.ntmps52
  go_wp2_with fail
  go_quiet (fail)
  obtain ⟨w1, hw1⟩ : ∃ w1, w1 = w.drewN nq := ⟨_, rfl⟩
  rw [← hw1]
  have hf1 := Fr.ofDrew ⟨nq, hw1⟩
  have q5 := hf1.cell id p5
  have q6 := hf1.cell id p6
  have hzw1 := hf1.size
  have Hf1 := Lib.hid hf1
  clear hw1 hf1 k1 p5 p6
  go_wp2_with fail
  have hnm : Try.f79.name ≠ "runtime.NumGoroutine" := by decide +kernel
  have hbd : Try.f79.body ≠ none := by intro h; cases h
  have Hnm := Lib.hid hnm; have Hbd := Lib.hid hbd
  clear hnm hbd
  go_region_law ((first
    | (refine step_call _ rfl _ _ _ rfl _ Try.func79 Hnm.out Hbd.out #[.slice A2 m2 c2, .int .i64 t] (by simp [Act.eval, Act.put]) _ (Hw2.out w1.drew (Hf1.out.drew)) ?_; rintro e w2 ⟨A4, c4, p4, rfl, hf2, hp2, hs2⟩; refine ⟨_, rfl, ?_⟩; have hf12 : Fr Nob w w2 := (Hf1.out.drew).trans0 hf2; have r6 := blk_cell (hf12.blk id Hb.out) 6 rfl; have hz2 := hf12.size; have Hs2 := Lib.hid hs2; have Hp2 := Lib.hid hp2; have hz12 := hf2.size; have Hf12 := Lib.hid hf12; clear hs2 hp2 hf2 hf12)
    | (refine step_call _ rfl _ _ _ rfl _ Try.func79 Hnm.out Hbd.out #[.slice A3 m3 c3, .int .i64 t] (by simp [Act.eval, Act.put]) _ (Hw3.out w2 Hf12.out) ?_; rintro e w3 ⟨A5, c5, p5, rfl, hf3, hp3, hs3⟩; refine ⟨_, rfl, ?_⟩; have hf13 : Fr Nob w w3 := Hf12.out.trans0 hf3; have d5 := blk_cell (hf13.blk id Hb.out) 5 rfl; have d6 := blk_cell (hf13.blk id Hb.out) 6 rfl; have g5 := blk_froz (hf13.blk id Hb.out) 5; have g6 := blk_froz (hf13.blk id Hb.out) 6; have hz3 := hf13.size; have Hs3 := Lib.hid hs3; have Hp3 := Lib.hid hp3; have Hf13 := Lib.hid hf13; have Hs2' := Lib.hid (Hs2.out.fr hf3 fun _ _ q => q); clear hs3 hp3 hf3 hf13)))
  all_goals (
    obtain ⟨w5, hw5⟩ : ∃ w5, w5 = (w3.setCell ⟨b, 5, none⟩ (.slice A4 p4 c4)).setCell ⟨b, 6, none⟩ (.slice A5 p5 c5) := ⟨_, rfl⟩
    have hf35 : Fr (fun k => k = b) w3 w5 := by rw [hw5]; exact ((Fr.refl (fun k => k = b) w3).setCell (p := ⟨b, 5, none⟩) (.inl rfl) _).setCell (p := ⟨b, 6, none⟩) (.inl rfl) _
    have Hb5 : Hid (w5.heap[b]? = some (refObj (c.removeS t) (.slice A1 c.q.length c1) (.slice A4 p4 c4) (.slice A5 p5 c5))) := Lib.hid (by rw [hw5]; have := blk_set (blk_set (Hf13.out.blk id Hb.out) 5 (.slice A4 p4 c4)) 6 (.slice A5 p5 c5); rw [this]; rfl)
    have hzd := ((Fr.refl Nob w1).drew).size
    have hz13 := Hf12.out.size
    have Hs5 : Hid (Sl w5 (From w.heap.size) 63 3 (.slice A4 p4 c4) p4 (waits (notT c.sd t))) := Lib.hid ((Hs2'.out.mono (S' := From w.heap.size) fun k hk q => by unfold From at q ⊢; omega).fr hf35 fun k q e => by unfold From at q; omega)
    have Hr5 : Hid (Sl w5 (From w.heap.size) 63 3 (.slice A5 p5 c5) p5 (waits (notT c.rv t))) := Lib.hid ((Hs3.out.mono (S' := From w.heap.size) fun k hk q => by unfold From at q ⊢; omega).fr hf35 fun k q e => by unfold From at q; omega)
    have Hf5 := Lib.hid (Hf13.out.none.trans0 hf35)
    rw [← hw5]
    clear hw5 hf35 Hf13 Hf12 Hs2' Hs2 Hs3 Hw2 Hw3 r6 d5 d6 g5 g6 q5 q6 hzd hz13
    have e5 := blk_cell Hb5.out 5 rfl
    have e6 := blk_cell Hb5.out 6 rfl
    go_wp2_with fail
    have k2 := (Hfin.out p4 p5 Hp2.out Hp3.out).1
    have k3 := (Hfin.out p4 p5 Hp2.out Hp3.out).2
    go_quiet (fail)
    obtain ⟨w6, hw6⟩ : ∃ w6, w6 = w5.drewN nq := ⟨_, rfl⟩
    rw [← hw6]
    have hf56 := Fr.ofDrew ⟨nq, hw6⟩
    have key := Hmk.out w6 (Hf5.out.trans0 hf56.none) _ _ (hf56.blk id Hb5.out) (by show Sl _ _ _ _ _ (notT c.sd t).length _; rw [Hp2.out]; exact Hs5.out.fr hf56 fun _ _ q => q) (by show Sl _ _ _ _ _ (notT c.rv t).length _; rw [Hp3.out]; exact Hr5.out.fr hf56 fun _ _ q => q)
    clear hw6 hf56 k2 k3 e5 e6 Hmk Hfin Hb5 Hs5 Hr5 Hf5
    go_wp2_with fail
    go_ret
    exact ⟨rfl, key⟩)
end Go.Proofs.Ytdemeghhjnehbaa
