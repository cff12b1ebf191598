/- Who waits on a channel, from outside; what two laws need. -/
import Derived.Test.YtcffplgimbbflaaGreatSlQ26
import Derived.Test.YtcffplgimbbflaaGreatRows
set_option linter.unusedVariables false
set_option linter.unusedSimpArgs false
namespace Go.Proofs.YtcffplgimbbflaaGreat
open Go.RowKit
set_option maxRecDepth 100000
theorem WAt.waiting {w : World} {S : Nat → Prop} {wb : Nat} {P : Pg} {st : WS} {nd nm : Nat} (h : WAt w S wb P st nd nm) {i : Nat} {c : ChS} (hi : st.ch i = some c) (hn : i < st.nch) (s : Bool) (n : Nat) (hl : (c.queue s).length = n) : Calls Tryz.prog 18 #[ptV (P.2 i), .bool s] w fun e w' => ∃ (A : Option Addr) (cp : Nat), e = .returned (.slice A n cp) ∧ Fr Nob w w' := by
  obtain ⟨F, c', h, rfl, hS⟩ := h
  rw [← h.pad.2.2 i hn]
  refine (pool_waiting (h.pool id) i hi s n hl).mono ?_
  rintro e w' ⟨A, cp, he, hf, _⟩
  exact ⟨A, cp, he, hf⟩
/-- What the laws of selects need. -/
theorem sl_base : True := by
  have h1 := @do_go; have h2 := @do_make; have h3 := @do_stop; have h4 := @do_timer; have h5 := @do_ch10; have h6 := @do_ch11; have h7 := @do_select
  have k1 := @world_new; have k2 := @top_many; have k3 := @world_steps; have k4 := @order_told; have k5 := @top_awake; have k6 := @world_chanAt; have k7 := @WAt.len; have k8 := @pool_waiting
  have l1 := @PgOk.same; have l2 := @SameP.plays; have l3 := @run_own; have l4 := @run_tell; have l5 := @run_act; have l6 := @run_wait; have l7 := @run_end; have l8 := @park_eq; have l9 := @step_run; have l10 := @step_adv; have l11 := @new_tkR; have l12 := @upd_tkW; have l13 := @wake_tkW; have l14 := @rd_lit; have l15 := @Gath.join; have l16 := @evs_get; have l17 := @got_tkW
  trivial
end Go.Proofs.YtcffplgimbbflaaGreat
