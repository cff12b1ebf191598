/- TopTickers answers true whatever its inputs are: no condition. -/
import Derived.Test.YtcffplgimbbflaaGreatTkQ18
set_option linter.unusedVariables false
set_option linter.unusedSimpArgs false
namespace Go.Proofs.YtcffplgimbbflaaGreat
open Go.RowKit
set_option maxRecDepth 100000
theorem WP.made {w w' : World} {F : Nat → Nat → Prop} {c : Cfg} {P : Pg} {st : WS} {nd nm : Nat} (h : WP H0 w F c P st nd nm) (hf : Fr (fun k => k = c.wb) w w') (m : Nat) (hb : w'.heap[c.wb]? = some (worldO c { st with made := m })) : WP H0 w' F c P { st with made := m } nd nm := by
  have h' := h.frame (H' := fun q => q = 0) hf (fun _ q => q.elim) fun q k n a b => n (h.dis q 0 k a (by rw [b]; exact h.own0))
  exact ⟨h'.lt, h'.dis, h'.own0, h'.own1, fun _ => hb, fun _ => h'.clk (by decide), fun _ => h'.tab (by decide), fun _ => h'.chs (by decide), fun _ => h'.tim (by decide), fun _ => h'.ctx (by decide), fun _ => h'.dls (by decide), fun _ => h'.lks (by decide), fun _ => h'.prg (by decide), fun _ => h'.evs (by decide), fun _ => h'.cas (by decide), fun _ => h'.pool (by decide), h'.chn, h'.tml, h'.cxl, h'.pad⟩
/-- A channel beside the world gets a handle. -/
theorem WAt.open {w : World} {S : Nat → Prop} {wb : Nat} {P : Pg} {st : WS} {nd nm : Nat} (h : WAt w S wb P st nd nm) (hn : st.nch < 100000) {T : Nat → Prop} {b : Nat} {ch : ChS} (hc : ChanAt w T b ch) (hT : ∀ k, S k → T k → False) : ∀ W, Fr Nob w W → Calls Tryz.prog 131 #[ptV wb, ptV b] W fun e w' => e = .returned (inV (st.nch : Int)) ∧ ∃ S' : Nat → Prop, Fr S W w' ∧ WAt w' S' wb (P.1, Go.Proofs.YtcffplgimbbflaaGreat.upd P.2 st.nch b) (st.addCh ch) nd nm ∧ ∀ k, S' k → S k ∨ T k ∨ W.heap.size ≤ k := fun W hW => by
  obtain ⟨F, c, h1, hwb, hS⟩ := h.fr0 hW
  clear h
  rename WP _ _ _ _ _ _ _ _ => h
  subst hwb
  have hc := hc.fr0 hW
  have h30 : ¬ F 3 c.wb := fun q => absurd (h.dis _ _ _ q h.own0) (by decide)
  refine (open_raw (h.blk (fun q => q)) (h.chs (fun q => q)) h30 (by omega) b).mono ?_
  rintro e w' ⟨v', rfl, hf, hb, hs⟩
  have hw := h.addChan (w0 := W) ⟨fun q => q, fun q => q, fun q => q⟩ hn hc (fun p k a q => hT k ((hS k).2 ⟨p, a⟩) q) hf hb hs
  refine ⟨rfl, _, hf.mono fun k _ q => ?_, ⟨_, _, hw, rfl, fun k => Iff.rfl⟩, fun k q => ?_⟩
  · rcases q with q | q
    · exact (hS k).2 ⟨0, by rw [q]; exact h.own0⟩
    · exact (hS k).2 ⟨3, q⟩
  · obtain ⟨p, q⟩ := q
    by_cases e : p = 11
    · subst e; rw [upd_same] at q
      rcases q with q | q
      · exact .inl ((hS k).2 ⟨11, q⟩)
      · exact .inr (.inl q)
    · rw [upd_ne _ _ e] at q
      by_cases e3 : p = 3
      · subst e3; rw [upd_same] at q
        rcases q with q | q
        · exact .inl ((hS k).2 ⟨3, q⟩)
        · exact .inr (.inr q.1)
      · rw [upd_ne _ _ e3] at q; exact .inl ((hS k).2 ⟨p, q⟩)
section
variable {w : World} {S : Nat → Prop} {P : Pg} {st : WS} {nd nm : Nat} {ab : Nat} {x : Ax} (h : WAt w S x.wb P st nd nm) (ha : ActAt w ab x x.u 0 false) (hab : ¬ S ab)
include h ha hab
set_option maxHeartbeats 2000000 in
theorem act_spawn (A : Nat) (hA : A < 8) (ea : x.a = (A : Int)) {s : WS} (hs : st.start x.b x.u = some s) :
    Calls Tryz.prog 85 #[ptV ab] w fun e w' => e = .returned (.tuple #[]) ∧ Ay w S ab x P s nd nm (some (updR x.u A st.ts.length)) w' := by
  have hal := ha.lt
  have HS := Lib.hid (fun W (hW : Fr Nob w W) => world_start (h.fr0 hW) x.b x.u hs)
  have key : ∀ W, ActAt W ab x x.u 0 false → W.cell? ⟨ab, 0, none⟩ = some (ptV x.wb) ∧ W.cell? ⟨ab, 4, none⟩ = some (inV x.b) ∧ W.cell? ⟨ab, 8, none⟩ = some (inV (x.u 0)) ∧ W.cell? ⟨ab, 9, none⟩ = some (inV (x.u 1)) ∧ W.cell? ⟨ab, 10, none⟩ = some (inV (x.u 2)) ∧ W.cell? ⟨ab, 11, none⟩ = some (inV (x.u 3)) ∧ W.cell? ⟨ab, 12, none⟩ = some (inV (x.u 4)) ∧ W.cell? ⟨ab, 13, none⟩ = some (inV (x.u 5)) ∧ W.cell? ⟨ab, 14, none⟩ = some (inV (x.u 6)) ∧ W.cell? ⟨ab, 15, none⟩ = some (inV (x.u 7)) := fun W q => ⟨xc0 q, xc4 q, xc8 q, xc9 q, xc10 q, xc11 q, xc12 q, xc13 q, xc14 q, xc15 q⟩
  have Key := Lib.hid key
  have hAi : (A : Int) < 8 := by omega
  have Ha := Lib.hid ha
  generalize st.ts.length = n at *
  clear h hs key ha
  go_enter Tryz.func85, Tryz.ntmps85
  go_wp2_with fail
  go_region_held3 (fun W => W.cell? ⟨ab, 0, none⟩ = some (ptV x.wb) ∧ W.cell? ⟨ab, 4, none⟩ = some (inV x.b) ∧ W.cell? ⟨ab, 8, none⟩ = some (inV (x.u 0)) ∧ W.cell? ⟨ab, 9, none⟩ = some (inV (x.u 1)) ∧ W.cell? ⟨ab, 10, none⟩ = some (inV (x.u 2)) ∧ W.cell? ⟨ab, 11, none⟩ = some (inV (x.u 3)) ∧ W.cell? ⟨ab, 12, none⟩ = some (inV (x.u 4)) ∧ W.cell? ⟨ab, 13, none⟩ = some (inV (x.u 5)) ∧ W.cell? ⟨ab, 14, none⟩ = some (inV (x.u 6)) ∧ W.cell? ⟨ab, 15, none⟩ = some (inV (x.u 7)))
    ((refine Key.out _ ?_; first | with_reducible exact ha2 | with_reducible exact Ha.out | exact blk_drew' Ha.out))
    ((go_at_call 76; refine (HS.out w.drew ((Fr.refl Nob w).drew)).mono ?_; rintro e w2 ⟨rfl, hn2'⟩; have hn2 := Nx.from0 ((Fr.refl Nob w).drew) hn2'; have ha2 := hn2.act Ha.out hab; have Hn2 := Lib.hid hn2; clear hn2 hn2'))
  have Ha2 := Lib.hid ha2
  clear ha2
  go_wp2_with fail
  refine (act_bad).mono ?_
  rintro e w3 ⟨rfl, rfl⟩
  go_wp2_with fail
  have c3 := xcE3 Ha2.out ea
  have cA := xcR Ha2.out A hA
  have fA := blk_froz Ha2.out (16 + A)
  go_region
  all_goals
    obtain ⟨wz, hwz⟩ : ∃ wz, wz = (w2.setCell ⟨ab, 16 + A, none⟩ (inV (n : Int))).drew := ⟨_, rfl⟩
    have haz : ActAt wz ab x (updR x.u A (n : Int)) 0 false := by rw [hwz]; exact blk_drew' (xpR Ha2.out A hA _)
    have hfz : Fr (fun q => q = ab) w2 wz := by rw [hwz]; exact ((Fr.refl (fun q => q = ab) w2).setCell (p := ⟨ab, 16 + A, none⟩) (.inl rfl) _).drew
    rw [← hwz]
    have Haz := Lib.hid haz; have Hfz := Lib.hid hfz
    clear hwz haz hfz c3 cA fA
    go_wp2_with fail
    go_end0
    exact ⟨rfl, Ay.both Hn2.out (Nat.le_refl _) (Nat.le_refl _) Hfz.out Haz.out hab hal⟩
end
theorem few_made {st s : WS} {y : Ins} {r : Nat → Int} {o : Option (Nat → Int)} (h : st.actMake y r = some (s, o)) : ∃ k : Nat, y.1.2.2.1 = (k : Int) ∧ k ≤ 64 ∧ st.made < 64 ∧ st.nch < 90000 ∧ s = { st with ch := Go.Proofs.YtcffplgimbbflaaGreat.upd st.ch st.nch (some (chNew k)), nch := st.nch + 1, made := st.made + 1 } ∧ o = some (updR r y.1.2.1.toNat st.nch) := by
  unfold WS.actMake at h
  split at h
  · cases h
  · next hg =>
    cases h
    refine ⟨y.1.2.2.1.toNat, by omega, by omega, by omega, by omega, ?_, rfl⟩
    rfl
theorem xcE4' {w : World} {ab : Nat} {x : Ax} {r : Nat → Int} {how : Int} {pk : Bool} {v : Int} (h : ActAt w ab x r how pk) (e : x.b = v) : w.cell? ⟨ab, 4, none⟩ = some (inV v) := by rw [← e]; exact xc4 h
set_option maxHeartbeats 2000000 in
theorem act_create {w : World} {S : Nat → Prop} {P : Pg} {st : WS} {nd nm : Nat} {ab : Nat} {x : Ax} (h : WAt w S x.wb P st nd nm) (ha : ActAt w ab x x.u 0 false) (hab : ¬ S ab) (A : Nat) (hA : A < 8) (ea : x.a = (A : Int)) (k : Nat) (hk : k ≤ 64) (ek : x.b = (k : Int)) (hm : st.made < 64) (hn : st.nch < 90000) :
    Calls Tryz.prog 86 #[ptV ab] w fun e w' => e = .returned (.tuple #[]) ∧ ∃ B', Ay w S ab x (P.1, B') { st with ch := Go.Proofs.YtcffplgimbbflaaGreat.upd st.ch st.nch (some (chNew k)), nch := st.nch + 1, made := st.made + 1 } nd nm (some (updR x.u A st.nch)) w' := by
  have hal := ha.lt
  have hlt := h.lt
  have HN := Lib.hid (fun W => chan_new W k hk)
  have c4 := xcE4' ha ek
  have Ha := Lib.hid ha
  have hAi : (A : Int) < 8 := by omega
  have H := Lib.hid h; have Hlt := Lib.hid hlt; have Hn := Lib.hid hn
  have hmi : ¬ (64 : Int) ≤ (st.made : Int) := by omega
  have hmw : IntKind.i64.wrap ((st.made : Int) + 1) = (st.made : Int) + 1 := by rw [IntKind.wrap_i64]; omega
  clear h ha hlt ek
  go_enter Tryz.func86, Tryz.ntmps86
  go_wp2_with fail
  refine (HN.out w).mono ?_
  rintro e w1 ⟨b, T, rfl, hf1, hc1, hT1⟩
  obtain ⟨F, c, h1, hwb, hS⟩ := H.out.fr0 hf1
  have ha1 := Ha.out.fr hf1 (fun q => q)
  have hb1 := h1.blk (fun q => q)
  rw [hwb] at hb1
  have w4 := blk_cell hb1 4 rfl
  have f4 := blk_froz hb1 4
  have k0 := xc0 ha1
  have Hb1 := Lib.hid hb1; have H1 := Lib.hid h1; have Hwb := Lib.hid hwb; have HS := Lib.hid hS; have Ha1 := Lib.hid ha1; have Hc1 := Lib.hid hc1; have HT1 := Lib.hid hT1; have Hf1 := Lib.hid hf1
  clear c4 hb1 h1 hwb hS ha1 hc1 hT1 hf1
  go_wp2_with fail
  obtain ⟨w2, hw2⟩ : ∃ w2, w2 = w1.setCell ⟨x.wb, 4, none⟩ (.int .i64 ((st.made : Int) + 1)) := ⟨_, rfl⟩
  rw [← hw2]
  have hf12 : Fr (fun k => k = c.wb) w1 w2 := by rw [hw2]; exact (Fr.refl (fun k => k = c.wb) w1).setCell (p := ⟨x.wb, 4, none⟩) (.inl Hwb.out.symm) _
  have hb2 : w2.heap[c.wb]? = some (worldO c { st with made := st.made + 1 }) := by rw [hw2, Hwb.out]; exact blk_set Hb1.out 4 _
  have h2 := H1.out.made hf12 (st.made + 1) hb2
  have hwS : S c.wb := (HS.out _).2 ⟨0, H1.out.own0⟩
  have ha2 := Ha1.out.fr hf12 (fun e => hab (by rw [e]; exact hwS))
  have hc2 := Hc1.out.fr hf12 fun k q e => by have := HT1.out k q; have := Hlt.out _ hwS; omega
  have hw : WAt w2 S x.wb P { st with made := st.made + 1 } nd nm := ⟨F, c, h2, Hwb.out, HS.out⟩
  have Hopen := Lib.hid (hw.open (by show st.nch < 100000; have := Hn.out; omega) hc2 (fun k a q => by have := HT1.out k q; have := Hlt.out k a; omega))
  have Ha2 := Lib.hid ha2; have Hf12 := Lib.hid hf12; have HwS := Lib.hid hwS
  have Hz2 := Lib.hid hf12.size
  have Hz1 := Lib.hid Hf1.out.size
  clear hw2 hf12 hb2 h2 hwS ha2 hc2 hw w4 f4 k0 hmi hmw
  have hf0 : Fr Nob w2 w2 := Fr.refl _ _
  have K := Lib.hid (fun W (hW : ActAt W ab x x.u 0 false) => And.intro (xc0 hW) (xcE3 hW ea))
  go_region_held3 (fun W => W.cell? ⟨ab, 0, none⟩ = some (ptV x.wb) ∧ W.cell? ⟨ab, 3, none⟩ = some (inV (A : Int)))
    ((first | with_reducible exact k3s.out | with_reducible exact K.out _ ha3 | with_reducible exact K.out _ Ha2.out | exact K.out _ Ha2.out))
    ((go_at_call 131; refine (Hopen.out w2.drew hf0.drew).mono ?_; rintro e w3 ⟨rfl, S3, f3, a3, s3⟩; have ha3 : ActAt w3 ab x x.u 0 false := ActAt.fr (blk_drew' Ha2.out) f3 hab; have cA := xcR ha3 A hA; have fA := blk_froz ha3 (16 + A); have ha4 := xpR ha3 A hA (st.nch : Int); have k3s : Hid ((w3.setCell ⟨ab, 16 + A, none⟩ (inV (st.nch : Int))).cell? ⟨ab, 0, none⟩ = some (ptV x.wb) ∧ (w3.setCell ⟨ab, 16 + A, none⟩ (inV (st.nch : Int))).cell? ⟨ab, 3, none⟩ = some (inV (A : Int))) := Lib.hid ⟨xc0 ha4, xcE3 ha4 ea⟩; have A3 := Lib.hid a3; have F3 := Lib.hid f3; have S3' := Lib.hid s3; clear a3 f3 s3 ha4))
  all_goals
    go_wp2_with fail
    go_end0
    clear k3s cA fA
    obtain ⟨wz, hwz⟩ : ∃ wz, wz = w3.setCell ⟨ab, 16 + A, none⟩ (inV (st.nch : Int)) := ⟨_, rfl⟩
    have haz : ActAt wz ab x (updR x.u A (st.nch : Int)) 0 false := by rw [hwz]; exact xpR ha3 A hA _
    have hfz : Fr (fun q => q = ab) w3 wz := by rw [hwz]; exact (Fr.refl (fun q => q = ab) w3).setCell (p := ⟨ab, 16 + A, none⟩) (.inl rfl) _
    rw [← hwz]
    have hz1 := Hz1.out; have hz2 := Hz2.out
    have hs3 : ∀ q, S3 q → S q ∨ w.heap.size ≤ q := fun q hq => by
      rcases S3'.out q hq with e | e | e
      · exact .inl e
      · exact .inr (HT1.out q e)
      · have : w2.heap.size ≤ q := e
        exact .inr (by omega)
    have hf23 : Fr S w2 w3 := ((Fr.refl S w2).drew).trans0 F3.out
    refine ⟨rfl, _, S3, ?_, A3.out.fr hfz fun q a e => ?_, hs3, haz⟩
    · exact (((Hf1.out.none.trans0 (Hf12.out.mono fun q _ e => .inl (by rw [e]; exact HwS.out))).trans0 (hf23.mono fun q _ e => .inl e))).trans0 (hfz.mono fun q _ e => .inr e)
    · rcases hs3 q a with e2 | e2
      · exact hab (e ▸ e2)
      · omega
theorem timer_some {st s : WS} {kind d : Int} (h : st.timer kind d = some s) : 0 ≤ st.now ∧ st.now ≤ maxT ∧ 1 ≤ d ∧ st.named < 64 ∧ st.tm.length < 900 ∧ ∃ l', heapAdd (heapDel st.hp st.tm.length) ((st.tm.length : Int), addT st.now d, ((st.seq + 1 : Nat) : Int)) = some l' ∧
    s = { st with tm := st.tm ++ [(kind, 0, st.nch, 1)], named := st.named + 1, ch := Go.Proofs.YtcffplgimbbflaaGreat.upd st.ch st.nch (some chTimed), nch := st.nch + 1, hp := l', seq := st.seq + 1, per := putP st.per st.tm.length (perOf kind d) } := by
  unfold WS.timer at h
  split at h
  · cases h
  · next hg =>
    split at h
    · cases h
    · next l' hl =>
      cases h
      exact ⟨by omega, by omega, by omega, by omega, by omega, l', hl, rfl⟩
theorem TmOk.snoc {B : Nat → Nat} {n b : Nat} {tmr : List Tr} {tm : List TmS} (h : TmOk B n tmr tm) (k d g : Int) : TmOk (Go.Proofs.YtcffplgimbbflaaGreat.upd B n b) (n + 1) (tmr ++ [(k, d, b, g)]) (tm ++ [(k, d, n, g)]) := by
  have h' := h.more (b := b)
  refine ⟨?_, fun x hx => ?_⟩
  · rw [List.map_append, ← h'.1]; simp [upd_same]
  · rcases List.mem_append.1 hx with q | q
    · exact h'.2 x q
    · simp at q; subst q; exact Nat.lt_succ_self _
theorem TmOk.len {B : Nat → Nat} {n : Nat} {tmr : List Tr} {tm : List TmS} (h : TmOk B n tmr tm) : tmr.length = tm.length := by rw [h.1, List.length_map]
section
variable {w : World} {S : Nat → Prop} {F : Nat → Nat → Prop} {c : Cfg} {P : Pg} {st : WS} {nd nm : Nat} (h : WP H0 w F c P st nd nm) (hS : ∀ k, S k ↔ Un F k) {ab : Nat} {x : Ax} (hwb : c.wb = x.wb) (ha : ActAt w ab x x.u 0 false) (hab : ¬ S ab)
include h hS hwb ha hab
set_option maxHeartbeats 2000000 in
theorem act_timer (kind : Int) (hk : (x.o = 17 ∧ kind = 1) ∨ (x.o = 18 ∧ kind = 2)) (A B C : Nat) (hA : A < 8) (hB : B < 8) (hC : C < 8) (ea : x.a = (A : Int)) (eb : x.b = (B : Int)) (ec : x.c = (C : Int)) (hnm : nm < 700000) (hn : st.nch < 90000) {s : WS} (hs : st.timer kind (x.u B) = some s) :
    Calls Tryz.prog 89 #[ptV ab] w fun e w' => e = .returned (.tuple #[]) ∧ ∃ B', Ay w S ab x (P.1, B') s nd (nm + 6) (some (updR (updR x.u A st.tm.length) C st.nch)) w' := by
  have hal := ha.lt
  obtain ⟨h0, h1, hd, hna, htl, l', hl', rfl⟩ := timer_some hs
  have h4ab : ¬ F 4 ab := fun q => hab ((hS _).2 ⟨4, q⟩)
  have hAi : (A : Int) < 8 := by omega
  have hCi : (C : Int) < 8 := by omega
  have htr := h.tml.len
  have HB := Lib.hid (fun W (hW : Fr Nob w W) => act_b (ha.fr hW (fun q => q)) B hB eb)
  have hNow := fun W (hW : Fr Nob w W) => world_now (show WAt W S x.wb P st nd nm from ⟨F, c, h.fr0 hW, hwb, hS⟩)
  have HNow := Lib.hid hNow
  have hb := h.blk (fun q => q)
  rw [hwb] at hb
  have k0 : ∀ W, Fr Nob w W → W.cell? ⟨ab, 0, none⟩ = some (ptV x.wb) ∧ W.cell? ⟨x.wb, 5, none⟩ = some (ptV c.mb) := fun W hW => ⟨xc0 (ha.fr hW (fun q => q)), blk_cell (hW.blk (fun q => q) hb) 5 rfl⟩
  have K0 := Lib.hid k0
  have H := Lib.hid h; have HS := Lib.hid hS; have Hwb := Lib.hid hwb; have Ha := Lib.hid ha
  have HTm := Lib.hid (fun W (hW : Fr Nob w W) => (h.fr0 hW).tim (fun q => q))
  rcases hk with ⟨eo, rfl⟩ | ⟨eo, rfl⟩
  · have HT := Lib.hid (fun W (hW : Fr Nob w W) => tim_timer (HTm.out W hW) st.tm.length htr htl hna st.now (x.u B) h0 h1 hd hnm hl')
    clear h hS hwb ha hNow hb k0 hs hl' htr h0 h1 hd
    go_enter Tryz.func89, Tryz.ntmps89
    go_wp2_with fail
    have hf0 : Fr Nob w w := Fr.refl _ _
    go_region_held3 (fun W => W.cell? ⟨ab, 0, none⟩ = some (ptV x.wb) ∧ W.cell? ⟨x.wb, 5, none⟩ = some (ptV c.mb))
      ((refine K0.out _ ?_; first | with_reducible exact hf0 | exact hf0.drew))
      ((go_at_call 52; refine (HNow.out w.drew hf0.drew).mono ?_; rintro e w2 ⟨rfl, rfl⟩))
    have c2 := xcO Ha.out eo
    go_wp2_with fail
    refine (HB.out w.drew hf0.drew).mono ?_
    rintro e w2 ⟨rfl, hf2⟩
    have Hf2 := Lib.hid (hf0.drew.trans0 hf2)
    clear hf0 hf2 c2
    go_wp2_with fail
    refine (HT.out w2 Hf2.out).mono ?_
    rintro e w3 ⟨cb, S4, T, rfl, hf3, ht3, hc3, hS4, hT, hST⟩
    have ha3 := (Ha.out.fr Hf2.out (fun q => q)).fr hf3 h4ab
    have Ha3 := Lib.hid ha3; have Hf3 := Lib.hid hf3; have Ht3 := Lib.hid ht3; have Hc3 := Lib.hid hc3; have HS4 := Lib.hid hS4; have HT' := Lib.hid hT; have HST := Lib.hid hST
    clear ha3 hf3 ht3 hc3 hS4 hT hST
    go_wp2_with fail
    have c3 := xcE3 Ha3.out ea
    have cA := xcR Ha3.out A hA
    have fA := blk_froz Ha3.out (16 + A)
    go_region
    all_goals
      obtain ⟨wz, hwz⟩ : ∃ wz, wz = (w3.setCell ⟨ab, 16 + A, none⟩ (inV (st.tm.length : Int))).drew := ⟨_, rfl⟩
      have haz : ActAt wz ab x (updR x.u A (st.tm.length : Int)) 0 false := by rw [hwz]; exact blk_drew' (xpR Ha3.out A hA _)
      have hfz : Fr (fun q => q = ab) w3 wz := by rw [hwz]; exact ((Fr.refl (fun q => q = ab) w3).setCell (p := ⟨ab, 16 + A, none⟩) (.inl rfl) _).drew
      rw [← hwz]
      have Haz := Lib.hid haz; have Hfz := Lib.hid hfz
      clear hwz haz hfz c3 cA fA
      have hz := ((H.out.fr0 Hf2.out).part 4 Hf3.out).frame Hfz.out (fun _ q => q) fun p k _ q e => hab ((HS.out _).2 ⟨p, by rw [← e]; exact q⟩)
      have hz2 := Hf2.out.size; have hz3 := Hf3.out.size; have hzz := Hfz.out.size
      have hno : ¬ F 3 ab := fun q => hab ((HS.out _).2 ⟨3, q⟩)
      have hnw : ab ≠ c.wb := fun e => hab ((HS.out _).2 ⟨0, by rw [e]; exact H.out.own0⟩)
      have htz := Ht3.out.fr Hfz.out fun k q e => by
        rcases HS4.out k q with q | q
        · exact h4ab (by rw [← e]; exact q)
        · have : w2.heap.size ≤ k := q
          have : k = ab := e
          omega
      have hcz := Hc3.out.fr Hfz.out fun k q e => by
        have := HT'.out k q
        have : k = ab := e
        omega
      have hop := fun W (hW : Fr Nob wz W) => open_raw ((hz.fr0 hW).blk (by decide)) ((hz.fr0 hW).chs (by decide)) (fun q => absurd (H.out.dis _ _ _ q H.out.own0) (by decide)) (by omega) cb
      rw [Hwb.out] at hop
      have Hz := Lib.hid hz; have Htz := Lib.hid htz; have Hcz := Lib.hid hcz; have Hop := Lib.hid hop
      clear hz htz hcz hop
      go_wp2_with fail
      have hf0 : Fr Nob wz wz := Fr.refl _ _
      have K := Lib.hid (fun W r (hW : ActAt W ab x r 0 false) => And.intro (xc0 hW) (xcE5 hW ec))
      go_region_held3 (fun W => W.cell? ⟨ab, 0, none⟩ = some (ptV x.wb) ∧ W.cell? ⟨ab, 5, none⟩ = some (inV (C : Int)))
        ((first | with_reducible exact k5s.out | with_reducible exact K.out _ _ ha5 | with_reducible exact K.out _ _ Haz.out | exact K.out _ _ Haz.out))
        ((go_at_call 131; refine (Hop.out wz.drew hf0.drew).mono ?_; rintro e w5 ⟨v5, rfl, f5, b5, s5⟩; have ha5 : ActAt w5 ab x _ 0 false := ActAt.fr (blk_drew' Haz.out) f5 (fun q => by rcases q with q | q; exact hnw q; exact hno q); have cC := xcR ha5 C hC; have fC := blk_froz ha5 (16 + C); have ha6 := xpR ha5 C hC (st.nch : Int); have k5s := Lib.hid (K.out _ _ ha6); have Ha6 := Lib.hid ha6; have F5 := Lib.hid f5; have B5 := Lib.hid b5; have S5 := Lib.hid s5; clear f5 b5 s5 ha6))
      all_goals
        go_wp2_with fail
        go_end0
        obtain ⟨wf, hwf⟩ : ∃ wf, wf = w5.setCell ⟨ab, 16 + C, none⟩ (inV (st.nch : Int)) := ⟨_, rfl⟩
        rw [← hwf]
        have haf : ActAt wf ab x (updR (updR x.u A (st.tm.length : Int)) C (st.nch : Int)) 0 false := by rw [hwf]; exact Ha6.out
        have hff : Fr (fun q => q = ab) w5 wf := by rw [hwf]; exact (Fr.refl (fun q => q = ab) w5).setCell (p := ⟨ab, 16 + C, none⟩) (.inl rfl) _
        have hTd : ∀ p k, F p k → T k → False := fun p k a q => by have := H.out.lt p k a; have := HT'.out k q; omega
        have h5 := (Hz.out.fr0 ((Fr.refl Nob wz).drew)).addChan (w0 := w) (by decide) (by omega) (Hcz.out.fr0 ((Fr.refl Nob wz).drew)) hTd F5.out B5.out S5.out
        have ht5 := (Htz.out.fr0 ((Fr.refl Nob wz).drew)).fr F5.out (fun k q e => by
          rcases HS4.out k q with a | a
          · rcases e with e | e
            · exact absurd (H.out.dis _ _ _ a (by rw [e]; exact H.out.own0)) (by decide)
            · exact absurd (H.out.dis _ _ _ a e) (by decide)
          · have a : w2.heap.size ≤ k := a
            rcases e with e | e
            · have := H.out.lt _ _ H.out.own0; omega
            · have := H.out.lt _ _ e; omega)
        have key5 : ∀ p k, Go.Proofs.YtcffplgimbbflaaGreat.upd (Go.Proofs.YtcffplgimbbflaaGreat.upd F 3 (And' (F 3) wz.drew w5)) 11 (fun k => F 11 k ∨ T k) p k → F p k ∨ wz.heap.size ≤ k ∨ T k := fun p k q => by
          by_cases e : p = 11
          · subst e; rw [upd_same] at q
            exact q.imp (fun q => q) fun q => .inr q
          · rw [upd_ne _ _ e] at q
            by_cases e3 : p = 3
            · subst e3; rw [upd_same] at q
              exact q.imp (fun q => q) fun q => .inl q.1
            · rw [upd_ne _ _ e3] at q; exact .inl q
        have h6 := h5.fillTim (nm' := nm + 6) (by omega) ht5 (H.out.tml.snoc 1 0 1) (fun p k n a q => by
          rcases key5 p k a with a | a | a
          · rcases HS4.out k q with b | b
            · exact n (H.out.dis _ _ _ a b)
            · have b : w2.heap.size ≤ k := b
              have := H.out.lt _ _ a; omega
          · have := Htz.out.lt k q; omega
          · exact HST.out k q a)
        have key6 : ∀ p k, Go.Proofs.YtcffplgimbbflaaGreat.upd (Go.Proofs.YtcffplgimbbflaaGreat.upd (Go.Proofs.YtcffplgimbbflaaGreat.upd F 3 (And' (F 3) wz.drew w5)) 11 (fun k => F 11 k ∨ T k)) 4 S4 p k → S k ∨ w.heap.size ≤ k := fun p k q => by
          by_cases e : p = 4
          · subst e; rw [upd_same] at q
            rcases HS4.out k q with b | b
            · exact .inl ((HS.out _).2 ⟨4, b⟩)
            · have b : w2.heap.size ≤ k := b
              exact .inr (by omega)
          · rw [upd_ne _ _ e] at q
            rcases key5 p k q with a | a | a
            · exact .inl ((HS.out _).2 ⟨p, a⟩)
            · exact .inr (by omega)
            · have := HT'.out k a; exact .inr (by omega)
        have h7 := h6.frame hff (fun _ q => q) (fun p k _ q e => by
          rcases key6 p k q with a | a
          · exact hab (by rw [← e]; exact a)
          · have e : k = ab := e
            omega)
        refine ⟨rfl, _, _, ?_, ⟨_, _, h7, Hwb.out, fun k => Iff.rfl⟩, fun k ⟨p, q⟩ => key6 p k q, haf⟩
        have g1 : Fr (fun k => S k ∨ k = ab) w w3 := Hf2.out.none.trans0 (Hf3.out.mono fun k _ q => .inl ((HS.out k).2 ⟨4, q⟩))
        have g2 : Fr (fun k => S k ∨ k = ab) wz w5 := ((Fr.refl (fun k => S k ∨ k = ab) wz).drew).trans0 (F5.out.mono fun k _ q => by
          rcases q with q | q
          · exact .inl ((HS.out k).2 ⟨0, by rw [q]; exact H.out.own0⟩)
          · exact .inl ((HS.out k).2 ⟨3, q⟩))
        exact ((g1.trans0 (Hfz.out.mono fun k _ q => .inr q)).trans0 g2).trans0 (hff.mono fun k _ q => .inr q)
  · have HT := Lib.hid (fun W (hW : Fr Nob w W) => tim_ticker (HTm.out W hW) st.tm.length htr htl hna st.now (x.u B) h0 h1 hd hnm hl')
    clear h hS hwb ha hNow hb k0 hs hl' htr h0 h1 hd
    go_enter Tryz.func89, Tryz.ntmps89
    go_wp2_with fail
    have hf0 : Fr Nob w w := Fr.refl _ _
    go_region_held3 (fun W => W.cell? ⟨ab, 0, none⟩ = some (ptV x.wb) ∧ W.cell? ⟨x.wb, 5, none⟩ = some (ptV c.mb))
      ((refine K0.out _ ?_; first | with_reducible exact hf0 | exact hf0.drew))
      ((go_at_call 52; refine (HNow.out w.drew hf0.drew).mono ?_; rintro e w2 ⟨rfl, rfl⟩))
    have c2 := xcO Ha.out eo
    go_wp2_with fail
    refine (HB.out w.drew hf0.drew).mono ?_
    rintro e w2 ⟨rfl, hf2⟩
    have Hf2 := Lib.hid (hf0.drew.trans0 hf2)
    clear hf0 hf2 c2
    go_wp2_with fail
    refine (HT.out w2 Hf2.out).mono ?_
    rintro e w3 ⟨cb, S4, T, rfl, hf3, ht3, hc3, hS4, hT, hST⟩
    have ha3 := (Ha.out.fr Hf2.out (fun q => q)).fr hf3 h4ab
    have Ha3 := Lib.hid ha3; have Hf3 := Lib.hid hf3; have Ht3 := Lib.hid ht3; have Hc3 := Lib.hid hc3; have HS4 := Lib.hid hS4; have HT' := Lib.hid hT; have HST := Lib.hid hST
    clear ha3 hf3 ht3 hc3 hS4 hT hST
    go_wp2_with fail
    have c3 := xcE3 Ha3.out ea
    have cA := xcR Ha3.out A hA
    have fA := blk_froz Ha3.out (16 + A)
    go_region
    all_goals
      obtain ⟨wz, hwz⟩ : ∃ wz, wz = (w3.setCell ⟨ab, 16 + A, none⟩ (inV (st.tm.length : Int))).drew := ⟨_, rfl⟩
      have haz : ActAt wz ab x (updR x.u A (st.tm.length : Int)) 0 false := by rw [hwz]; exact blk_drew' (xpR Ha3.out A hA _)
      have hfz : Fr (fun q => q = ab) w3 wz := by rw [hwz]; exact ((Fr.refl (fun q => q = ab) w3).setCell (p := ⟨ab, 16 + A, none⟩) (.inl rfl) _).drew
      rw [← hwz]
      have Haz := Lib.hid haz; have Hfz := Lib.hid hfz
      clear hwz haz hfz c3 cA fA
      have hz := ((H.out.fr0 Hf2.out).part 4 Hf3.out).frame Hfz.out (fun _ q => q) fun p k _ q e => hab ((HS.out _).2 ⟨p, by rw [← e]; exact q⟩)
      have hz2 := Hf2.out.size; have hz3 := Hf3.out.size; have hzz := Hfz.out.size
      have hno : ¬ F 3 ab := fun q => hab ((HS.out _).2 ⟨3, q⟩)
      have hnw : ab ≠ c.wb := fun e => hab ((HS.out _).2 ⟨0, by rw [e]; exact H.out.own0⟩)
      have htz := Ht3.out.fr Hfz.out fun k q e => by
        rcases HS4.out k q with q | q
        · exact h4ab (by rw [← e]; exact q)
        · have : w2.heap.size ≤ k := q
          have : k = ab := e
          omega
      have hcz := Hc3.out.fr Hfz.out fun k q e => by
        have := HT'.out k q
        have : k = ab := e
        omega
      have hop := fun W (hW : Fr Nob wz W) => open_raw ((hz.fr0 hW).blk (by decide)) ((hz.fr0 hW).chs (by decide)) (fun q => absurd (H.out.dis _ _ _ q H.out.own0) (by decide)) (by omega) cb
      rw [Hwb.out] at hop
      have Hz := Lib.hid hz; have Htz := Lib.hid htz; have Hcz := Lib.hid hcz; have Hop := Lib.hid hop
      clear hz htz hcz hop
      go_wp2_with fail
      have hf0 : Fr Nob wz wz := Fr.refl _ _
      have K := Lib.hid (fun W r (hW : ActAt W ab x r 0 false) => And.intro (xc0 hW) (xcE5 hW ec))
      go_region_held3 (fun W => W.cell? ⟨ab, 0, none⟩ = some (ptV x.wb) ∧ W.cell? ⟨ab, 5, none⟩ = some (inV (C : Int)))
        ((first | with_reducible exact k5s.out | with_reducible exact K.out _ _ ha5 | with_reducible exact K.out _ _ Haz.out | exact K.out _ _ Haz.out))
        ((go_at_call 131; refine (Hop.out wz.drew hf0.drew).mono ?_; rintro e w5 ⟨v5, rfl, f5, b5, s5⟩; have ha5 : ActAt w5 ab x _ 0 false := ActAt.fr (blk_drew' Haz.out) f5 (fun q => by rcases q with q | q; exact hnw q; exact hno q); have cC := xcR ha5 C hC; have fC := blk_froz ha5 (16 + C); have ha6 := xpR ha5 C hC (st.nch : Int); have k5s := Lib.hid (K.out _ _ ha6); have Ha6 := Lib.hid ha6; have F5 := Lib.hid f5; have B5 := Lib.hid b5; have S5 := Lib.hid s5; clear f5 b5 s5 ha6))
      all_goals
        go_wp2_with fail
        go_end0
        obtain ⟨wf, hwf⟩ : ∃ wf, wf = w5.setCell ⟨ab, 16 + C, none⟩ (inV (st.nch : Int)) := ⟨_, rfl⟩
        rw [← hwf]
        have haf : ActAt wf ab x (updR (updR x.u A (st.tm.length : Int)) C (st.nch : Int)) 0 false := by rw [hwf]; exact Ha6.out
        have hff : Fr (fun q => q = ab) w5 wf := by rw [hwf]; exact (Fr.refl (fun q => q = ab) w5).setCell (p := ⟨ab, 16 + C, none⟩) (.inl rfl) _
        have hTd : ∀ p k, F p k → T k → False := fun p k a q => by have := H.out.lt p k a; have := HT'.out k q; omega
        have h5 := (Hz.out.fr0 ((Fr.refl Nob wz).drew)).addChan (w0 := w) (by decide) (by omega) (Hcz.out.fr0 ((Fr.refl Nob wz).drew)) hTd F5.out B5.out S5.out
        have ht5 := (Htz.out.fr0 ((Fr.refl Nob wz).drew)).fr F5.out (fun k q e => by
          rcases HS4.out k q with a | a
          · rcases e with e | e
            · exact absurd (H.out.dis _ _ _ a (by rw [e]; exact H.out.own0)) (by decide)
            · exact absurd (H.out.dis _ _ _ a e) (by decide)
          · have a : w2.heap.size ≤ k := a
            rcases e with e | e
            · have := H.out.lt _ _ H.out.own0; omega
            · have := H.out.lt _ _ e; omega)
        have key5 : ∀ p k, Go.Proofs.YtcffplgimbbflaaGreat.upd (Go.Proofs.YtcffplgimbbflaaGreat.upd F 3 (And' (F 3) wz.drew w5)) 11 (fun k => F 11 k ∨ T k) p k → F p k ∨ wz.heap.size ≤ k ∨ T k := fun p k q => by
          by_cases e : p = 11
          · subst e; rw [upd_same] at q
            exact q.imp (fun q => q) fun q => .inr q
          · rw [upd_ne _ _ e] at q
            by_cases e3 : p = 3
            · subst e3; rw [upd_same] at q
              exact q.imp (fun q => q) fun q => .inl q.1
            · rw [upd_ne _ _ e3] at q; exact .inl q
        have h6 := h5.fillTim (nm' := nm + 6) (by omega) ht5 (H.out.tml.snoc 2 0 1) (fun p k n a q => by
          rcases key5 p k a with a | a | a
          · rcases HS4.out k q with b | b
            · exact n (H.out.dis _ _ _ a b)
            · have b : w2.heap.size ≤ k := b
              have := H.out.lt _ _ a; omega
          · have := Htz.out.lt k q; omega
          · exact HST.out k q a)
        have key6 : ∀ p k, Go.Proofs.YtcffplgimbbflaaGreat.upd (Go.Proofs.YtcffplgimbbflaaGreat.upd (Go.Proofs.YtcffplgimbbflaaGreat.upd F 3 (And' (F 3) wz.drew w5)) 11 (fun k => F 11 k ∨ T k)) 4 S4 p k → S k ∨ w.heap.size ≤ k := fun p k q => by
          by_cases e : p = 4
          · subst e; rw [upd_same] at q
            rcases HS4.out k q with b | b
            · exact .inl ((HS.out _).2 ⟨4, b⟩)
            · have b : w2.heap.size ≤ k := b
              exact .inr (by omega)
          · rw [upd_ne _ _ e] at q
            rcases key5 p k q with a | a | a
            · exact .inl ((HS.out _).2 ⟨p, a⟩)
            · exact .inr (by omega)
            · have := HT'.out k a; exact .inr (by omega)
        have h7 := h6.frame hff (fun _ q => q) (fun p k _ q e => by
          rcases key6 p k q with a | a
          · exact hab (by rw [← e]; exact a)
          · have e : k = ab := e
            omega)
        refine ⟨rfl, _, _, ?_, ⟨_, _, h7, Hwb.out, fun k => Iff.rfl⟩, fun k ⟨p, q⟩ => key6 p k q, haf⟩
        have g1 : Fr (fun k => S k ∨ k = ab) w w3 := Hf2.out.none.trans0 (Hf3.out.mono fun k _ q => .inl ((HS.out k).2 ⟨4, q⟩))
        have g2 : Fr (fun k => S k ∨ k = ab) wz w5 := ((Fr.refl (fun k => S k ∨ k = ab) wz).drew).trans0 (F5.out.mono fun k _ q => by
          rcases q with q | q
          · exact .inl ((HS.out k).2 ⟨0, by rw [q]; exact H.out.own0⟩)
          · exact .inl ((HS.out k).2 ⟨3, q⟩))
        exact ((g1.trans0 (Hfz.out.mono fun k _ q => .inr q)).trans0 g2).trans0 (hff.mono fun k _ q => .inr q)
end
theorem actStop_some {st s : WS} {y : Ins} {r : Nat → Int} {o : Option (Nat → Int)} (h : st.actStop y r = some (s, o)) : ∃ (i : Nat) (kind data : Int) (cj : Nat) (gen : Int) (cc : ChS), r y.1.2.1.toNat = (i : Int) ∧ st.tm[i]? = some (kind, data, cj, gen) ∧ kind ≠ 4 ∧ kind ≠ 0 ∧ st.ch cj = some cc ∧ st.tm.length ≤ 900 ∧
    s = { st with hp := heapDel st.hp i, per := delP st.per i, ch := Go.Proofs.YtcffplgimbbflaaGreat.upd st.ch cj (some cc.dropS) } ∧ o = some (updR r y.1.2.2.1.toNat (bitI (cc.dropR || heapHas st.hp i))) := by
  unfold WS.actStop at h
  dsimp only at h
  split at h
  · cases h
  · next h0 =>
    split at h
    · cases h
    · next kind data cj gen htm =>
      split at h
      · cases h
      · next hk =>
        split at h
        · cases h
        · next cc hc =>
          cases h
          obtain ⟨i, hi⟩ : ∃ i : Nat, r y.1.2.1.toNat = (i : Int) := ⟨(r y.1.2.1.toNat).toNat, by omega⟩
          rw [hi] at htm ⊢
          have tn : ((i : Int)).toNat = i := by omega
          rw [tn] at htm
          exact ⟨i, kind, data, cj, gen, cc, rfl, htm, by omega, by omega, hc, by omega, rfl, rfl⟩
theorem TmOk.get {B : Nat → Nat} {n : Nat} {tmr : List Tr} {tm : List TmS} (h : TmOk B n tmr tm) {i : Nat} {k d : Int} {j : Nat} {g : Int} (hi : tm[i]? = some (k, d, j, g)) : tmr[i]? = some (k, d, B j, g) := by
  rw [h.1, List.getElem?_map, hi]; rfl
section
variable {w : World} {S : Nat → Prop} {F : Nat → Nat → Prop} {c : Cfg} {P : Pg} {st : WS} {nd nm : Nat} (h : WP H0 w F c P st nd nm) (hS : ∀ k, S k ↔ Un F k) {ab : Nat} {x : Ax} (hwb : c.wb = x.wb) (ha : ActAt w ab x x.u 0 false) (hab : ¬ S ab)
include h hS hwb ha hab
set_option maxHeartbeats 2000000 in
theorem act_set (eo : x.o = 20) (A B : Nat) (hA : A < 8) (hB : B < 8) (ea : x.a = (A : Int)) (eb : x.b = (B : Int)) (hnm : nm < 700000) (htl : st.tm.length ≤ 900) {i : Nat} (hi : x.u A = (i : Int)) {kind data : Int} {cj : Nat} {gen : Int} (htm : st.tm[i]? = some (kind, data, cj, gen)) (hk4 : kind ≠ 4) (hk0 : kind ≠ 0) {cc : ChS} (hc : st.ch cj = some cc) :
    Calls Tryz.prog 90 #[ptV ab] w fun e w' => e = .returned (.tuple #[]) ∧ Ay w S ab x P { st with hp := heapDel st.hp i, per := delP st.per i, ch := Go.Proofs.YtcffplgimbbflaaGreat.upd st.ch cj (some cc.dropS) } nd (nm + 3) (some (updR x.u B (bitI (cc.dropR || heapHas st.hp i)))) w' := by
  have hal := ha.lt
  have hil := (List.getElem?_eq_some_iff.1 htm).1
  have htr := h.tml.get htm
  have HA := Lib.hid (fun W (hW : Fr Nob w W) => act_a (ha.fr hW (fun q => q)) A hA ea)
  rw [hi] at HA
  have hd : ∀ k, F 4 k → F 11 k → False := fun k a b => absurd (h.dis _ _ _ a b) (by decide)
  have HK := Lib.hid (fun W (hW : Fr Nob w W) => tim_kind ((h.fr0 hW).tim (fun q => q)) i _ htr)
  obtain ⟨b, hb⟩ : ∃ b, (cc.dropR || heapHas st.hp i) = b := ⟨_, rfl⟩
  have HT := Lib.hid (fun W (hW : Fr Nob w W) => tim_stop ((h.fr0 hW).tim (fun q => q)) ((h.fr0 hW).pool (fun q => q)) hd i (by omega) _ htr cj rfl hc hnm b hb)
  rw [hb]
  have hbk := h.blk (fun q => q)
  rw [hwb] at hbk
  have k0 := xc0 ha
  have k5 := blk_cell hbk 5 rfl
  have k2 : ∀ W, Fr Nob w W → W.cell? ⟨ab, 2, none⟩ = some (inV 20) := fun W hW => xcO (ha.fr hW (fun q => q)) eo
  have hBi : (B : Int) < 8 := by omega
  have H := Lib.hid h; have HS := Lib.hid hS; have Hwb := Lib.hid hwb; have Ha := Lib.hid ha; have K2 := Lib.hid k2; have Hc := Lib.hid hc
  have hn2 := chn_upd h.chn hc
  have Hn2 := Lib.hid hn2
  clear h hS hwb ha hbk k2 hb hc hn2 htm htr hi hd
  go_enter Tryz.func90, Tryz.ntmps90
  go_wp2_with fail
  refine (HA.out w (Fr.refl _ _)).mono ?_
  rintro e w1 ⟨rfl, hf1⟩
  have Hf1 := Lib.hid hf1
  clear hf1 k0 k5
  go_wp2_with fail
  refine (HK.out w1 Hf1.out).mono ?_
  rintro e w2 ⟨rfl, rfl⟩
  have k2 := K2.out w1 Hf1.out
  have q0 : (kind == 0) = false := by simpa using hk0
  have q4 : (kind == 4) = false := by simpa using hk4
  dsimp only
  go_wp2_with fail
  refine (HA.out w1 Hf1.out).mono ?_
  rintro e w3 ⟨rfl, hf3⟩
  have Hf3 := Lib.hid (Hf1.out.trans0 hf3)
  clear hf3 k2 q0 q4
  go_wp2_with fail
  refine (HT.out w3 Hf3.out).mono ?_
  rintro e w4 ⟨rfl, hf4, ht4, hp4⟩
  have hsub : ∀ k, Or' (F 4) (F 11) k → S k := fun k q => by
    rcases q with q | q
    · exact (HS.out k).2 ⟨4, q⟩
    · exact (HS.out k).2 ⟨11, q⟩
  have ha4 := (Ha.out.fr Hf3.out (fun q => q)).fr hf4 (fun q => hab (hsub _ q))
  have h' := (H.out.fr0 Hf3.out).part2 4 11 hf4
  have hw4 : WAt w4 S x.wb P { st with hp := heapDel st.hp i, per := delP st.per i, ch := Go.Proofs.YtcffplgimbbflaaGreat.upd st.ch cj (some cc.dropS) } nd (nm + 3) := ⟨F, c, ⟨h'.lt, h'.dis, h'.own0, h'.own1, fun _ => h'.blk (by decide), fun _ => h'.clk (by decide), fun _ => h'.tab (by decide), fun _ => h'.chs (by decide), fun _ => ht4, fun _ => (h'.ctx (by decide)).mono (by omega), fun _ => h'.dls (by decide), fun _ => h'.lks (by decide), fun _ => h'.prg (by decide), fun _ => h'.evs (by decide), fun _ => h'.cas (by decide), fun _ => hp4, Hn2.out _, h'.tml, h'.cxl, h'.pad⟩, Hwb.out, HS.out⟩
  have Ha4 := Lib.hid ha4
  have hn4 : Nx w S x.wb P _ nd (nm + 3) w4 := ⟨S, Hf3.out.none.trans0 (hf4.mono fun k _ q => hsub k q), hw4, fun k q => .inl q⟩
  have Hn4 := Lib.hid hn4
  have hf04 : Hid (Fr S w w4) := Lib.hid (Hf3.out.none.trans0 (hf4.mono fun k _ q => hsub k q))
  clear hf4 ht4 hp4 hsub ha4 h' hw4 hn4
  go_wp2_with fail
  have c4 := xcE4 Ha4.out eb
  have cB := xcR Ha4.out B hB
  have fB := blk_froz Ha4.out (16 + B)
  have d4 := xcE4 (xpR Ha4.out B hB (bitI b)) eb
  go_region_held3 (fun W => W.cell? ⟨ab, 4, none⟩ = some (inV (B : Int)))
    ((first | with_reducible exact c4 | exact c4 | exact d4))
    ((go_at_call 125; refine (world_bit w4.drew b).mono ?_; rintro e w9 ⟨rfl, rfl⟩))
  all_goals
    obtain ⟨wz, hwz⟩ : ∃ wz, wz = (w4.setCell ⟨ab, 16 + B, none⟩ (inV (bitI b))).drew := ⟨_, rfl⟩
    have haz : ActAt wz ab x (updR x.u B (bitI b)) 0 false := by rw [hwz]; exact blk_drew' (xpR Ha4.out B hB _)
    have hfz : Fr (fun q => q = ab) w4 wz := by rw [hwz]; exact ((Fr.refl (fun q => q = ab) w4).setCell (p := ⟨ab, 16 + B, none⟩) (.inl rfl) _).drew
    try rw [← hwz]
    have Haz := Lib.hid haz; have Hfz := Lib.hid hfz
    clear hwz haz hfz c4 cB fB d4
    go_wp2_with fail
    go_end0
    exact ⟨rfl, Ay.both Hn4.out (Nat.le_refl _) (Nat.le_refl _) Hfz.out Haz.out hab hal⟩
end
section
variable {w : World} {S : Nat → Prop} {wb : Nat} {P : Pg} {st : WS} {nd nm : Nat} (h : WAt w S wb P st nd nm)
include h
/-- A task's registers are put. -/
theorem WAt.tput {id : Nat} {pc : Int} {r : Nat → Int} {s : WS} (hs : st.put id pc r = some s) : ∃ tb, (∀ W, Fr Nob w W → W.cell? ⟨wb, 2, none⟩ = some (ptV tb)) ∧ ∀ W, Fr Nob w W → Calls Tryz.prog 62 #[ptV tb, inV (id : Int), inV pc, .agg (regR r)] W fun e w' => e = .returned (inV 0) ∧ Nx W S wb P s nd nm w' ∧ w'.cell? ⟨wb, 2, none⟩ = some (ptV tb) := by
  unfold WS.put at hs
  split at hs
  · cases hs
  · next t d cs hts =>
    split at hs
    · next hg =>
      cases hs
      obtain ⟨h2, rfl⟩ := hg
      obtain ⟨F, c, h, rfl, hS⟩ := h
      obtain ⟨cv, htsv, _, hnil⟩ := (h.cas (fun q => q)).2 id t d [] hts
      obtain rfl := hnil rfl
      refine ⟨c.tb, fun W hW => blk_cell (hW.blk (fun q => q) (h.blk (fun q => q))) 2 rfl, fun W hW => ?_⟩
      refine (put_ok ((h.fr0 hW).tab (fun q => q)) id t d htsv (by simp [h2]) pc r).mono ?_
      rintro e w' ⟨rfl, hf, ht⟩
      have hz := hW.size
      exact ⟨rfl, (WAt.tabled hS (h.fr0 hW) hf ht (fun k q => .inl q) (((h.fr0 hW).cas (fun q => q)).fr hf (fun k a b => absurd (h.dis _ _ _ a b) (by decide)) |>.set _ _ _)), hf.cell (fun q => absurd (h.dis _ _ _ q h.own0) (by decide)) (blk_cell (hW.blk (fun q => q) (h.blk (fun q => q))) 2 rfl)⟩
    · cases hs
/-- A task ends. -/
theorem WAt.tend {id : Nat} {how : Int} {s : WS} (hs : st.endT id how = some s) : ∃ tb, (∀ W, Fr Nob w W → W.cell? ⟨wb, 2, none⟩ = some (ptV tb)) ∧ ∀ W, Fr Nob w W → Calls Tryz.prog 60 #[ptV tb, inV (id : Int), inV how] W fun e w' => e = .returned (inV 0) ∧ Nx W S wb P s nd nm w' ∧ w'.cell? ⟨wb, 2, none⟩ = some (ptV tb) := by
  unfold WS.endT at hs
  split at hs
  · cases hs
  · next t d cs hts =>
    split at hs
    · cases hs
    · next hg =>
      cases hs
      have h2 : t 2 ≠ 2 := fun e => hg (.inl e)
      obtain rfl : cs = [] := Classical.byContradiction fun e => hg (.inr e)
      obtain ⟨F, c, h, rfl, hS⟩ := h
      obtain ⟨cv, htsv, _, hnil⟩ := (h.cas (fun q => q)).2 id t d [] hts
      obtain rfl := hnil rfl
      refine ⟨c.tb, fun W hW => blk_cell (hW.blk (fun q => q) (h.blk (fun q => q))) 2 rfl, fun W hW => ?_⟩
      refine (end_ok ((h.fr0 hW).tab (fun q => q)) id t d htsv (by simp [h2]) how).mono ?_
      rintro e w' ⟨rfl, hf, ht⟩
      have hz := hW.size
      exact ⟨rfl, (WAt.tabled hS (h.fr0 hW) hf ht (fun k q => .inl q) (((h.fr0 hW).cas (fun q => q)).fr hf (fun k a b => absurd (h.dis _ _ _ a b) (by decide)) |>.set _ _ _)), hf.cell (fun q => absurd (h.dis _ _ _ q h.own0) (by decide)) (blk_cell (hW.blk (fun q => q) (h.blk (fun q => q))) 2 rfl)⟩
/-- A task waits. -/
theorem WAt.tpark {id : Nat} {op x y z : Int} {v : Value} {df : Bool} {s : WS} (hs : st.park id ((op, x, y, z), v, [], df) = some s) : st.ev.length < 1000 ∧ ∃ s1 : WS, s = s1.tell 2 id 0 0 0 ∧ s1.ev = st.ev ∧ ∃ tb, (∀ W, Fr Nob w W → W.cell? ⟨wb, 2, none⟩ = some (ptV tb)) ∧ ∀ W, Fr Nob w W → Calls Tryz.prog 61 #[ptV tb, inV (id : Int), .agg #[inV op, inV x, inV y, inV z, .slice none 0 0, .bool df]] W fun e w' => e = .returned (inV 0) ∧ Nx W S wb P s1 nd nm w' ∧ w'.cell? ⟨wb, 2, none⟩ = some (ptV tb) := by
  unfold WS.park at hs
  split at hs
  · cases hs
  · next t d cs hts =>
    split at hs
    · next hg =>
      obtain ⟨h2, rfl, hg1, hop⟩ := hg
      obtain ⟨hev, hs⟩ := tellO_some hs
      refine ⟨hev, _, hs, rfl, ?_⟩
      obtain ⟨F, c, h, rfl, hS⟩ := h
      obtain ⟨cv, htsv, _, hnil⟩ := (h.cas (fun q => q)).2 id t d [] hts
      obtain rfl := hnil rfl
      refine ⟨c.tb, fun W hW => blk_cell (hW.blk (fun q => q) (h.blk (fun q => q))) 2 rfl, fun W hW => ?_⟩
      refine (park_ok ((h.fr0 hW).tab (fun q => q)) id t d htsv op x y z df (by simp [h2]) hop hg1).mono ?_
      rintro e w' ⟨rfl, hf, ht⟩
      have hz := hW.size
      exact ⟨rfl, (WAt.tabled hS (h.fr0 hW) hf ht (fun k q => .inl q) (((h.fr0 hW).cas (fun q => q)).fr hf (fun k a b => absurd (h.dis _ _ _ a b) (by decide)) |>.set _ _ _)), hf.cell (fun q => absurd (h.dis _ _ _ q h.own0) (by decide)) (blk_cell (hW.blk (fun q => q) (h.blk (fun q => q))) 2 rfl)⟩
    · cases hs
end
/-- What concerns a task alone, plainly. -/
def WS.alone (st : WS) (id : Nat) (pc : Int) (r : Nat → Int) (told : Bool) (v : Int) (ended : Bool) : Option WS :=
  match st.put id pc r with
  | none => none
  | some s =>
    match (if told then s.tellO 1 id v 0 0 else some s) with
    | none => none
    | some s => if ended then (match s.endT id 0 with
      | none => none
      | some s => s.tellO 4 id 0 0 0) else some s
theorem Nx.tell {w w1 : World} {S : Nat → Prop} {wb : Nat} {P : Pg} {st : WS} {nd nm : Nat} (hn : Nx w S wb P st nd nm w1) (kind who a b d : Int) (hev : st.ev.length < 1000000) : ∀ W, Fr Nob w1 W → Calls Tryz.prog 28 #[ptV wb, inV kind, inV who, inV a, inV b, inV d] W fun e w' => e = .returned (.tuple #[]) ∧ Nx w S wb P (st.tell kind who a b d) nd nm w' := fun W hW => by
  obtain ⟨S', f, a', s⟩ := hn
  refine (world_tell (a'.fr0 hW) kind who a b d hev).mono ?_
  rintro e w' ⟨he, h'⟩
  exact ⟨he, Nx.step f s (Nx.from0 hW h')⟩
theorem Nx.tend {w w1 : World} {S : Nat → Prop} {wb : Nat} {P : Pg} {st s : WS} {nd nm : Nat} (hn : Nx w S wb P st nd nm w1) {id : Nat} {how : Int} (hs : st.endT id how = some s) : ∃ tb, (∀ W, Fr Nob w1 W → W.cell? ⟨wb, 2, none⟩ = some (ptV tb)) ∧ ∀ W, Fr Nob w1 W → Calls Tryz.prog 60 #[ptV tb, inV (id : Int), inV how] W fun e w' => e = .returned (inV 0) ∧ Nx w S wb P s nd nm w' := by
  obtain ⟨S', f, a', s'⟩ := hn
  obtain ⟨tb, h1, h2⟩ := a'.tend hs
  refine ⟨tb, h1, fun W hW => (h2 W hW).mono ?_⟩
  rintro e w' ⟨he, h', _⟩
  exact ⟨he, Nx.step f s' (Nx.from0 hW h')⟩
theorem Nx.blk {w w1 : World} {S : Nat → Prop} {wb : Nat} {P : Pg} {st : WS} {nd nm : Nat} (hn : Nx w S wb P st nd nm w1) {k : Nat} {o : Obj} (hk : ¬ S k) (hb : w.heap[k]? = some o) : w1.heap[k]? = some o := by
  obtain ⟨_, q, _⟩ := hn; exact q.blk hk hb
section
variable {w : World} {S : Nat → Prop} {wb : Nat} {P : Pg} {st : WS} {nd nm : Nat} (h : WAt w S wb P st nd nm)
include h
set_option maxHeartbeats 400000 in
theorem world_alone {id : Nat} {pc : Int} {r : Nat → Int} {told : Bool} {v : Int} {ended : Bool} {s : WS} (hs : st.alone id pc r told v ended = some s) :
    Calls Tryz.prog 58 #[ptV wb, inV (id : Int), .agg (outA pc r told v ended)] w fun e w' => e = .returned (.tuple #[]) ∧ Nx w S wb P s nd nm w' := by
  unfold WS.alone at hs
  split at hs
  · cases hs
  · next s1 hput =>
    obtain ⟨tb, hc, hcall⟩ := h.tput hput
    have hlt := h.lt
    have Hc := Lib.hid hc; have Hcall := Lib.hid hcall; have Hs := Lib.hid hs; have Hlt := Lib.hid hlt
    clear hs hput h hc hcall hlt
    go_enter Tryz.func58, Tryz.ntmps58
    go_wp2_with fail
    obtain ⟨w1, hw1⟩ : ∃ w1, w1 = w.alloc (.cells (outA pc r told v ended) 138) := ⟨_, rfl⟩
    rw [← hw1]
    obtain ⟨ob, hob⟩ : ∃ ob, ob = w.heap.size := ⟨_, rfl⟩
    rw [← hob]
    have hfw1 : Fr Nob w w1 := by rw [hw1]; exact (Fr.refl Nob w).alloc _
    have hbw1 : w1.heap[ob]? = some (.cells (outA pc r told v ended) 138 (0, 0)) := by rw [hw1, hob]; exact heap_alloc_new _ _
    have Hfw1 := Lib.hid hfw1; have Hbw1 := Lib.hid hbw1; have Hzw1 : Hid (w.heap.size = ob ∧ ob < w1.heap.size) := ⟨hob.symm, lt_of_block hbw1⟩
    clear hw1 hob hfw1 hbw1
    have hobS : ¬ S ob := fun q => by have := Hlt.out _ q; have := Hzw1.out; omega
    have key : ∀ W, Fr S w1 W → (W.heap[ob]? = some (.cells (outA pc r told v ended) 138 (0, 0))) := fun W hW => hW.blk hobS Hbw1.out
    have key0 : ∀ W, Fr Nob w1 W → W.cell? ⟨wb, 2, none⟩ = some (ptV tb) ∧ W.cell? ⟨ob, 0, none⟩ = some (inV pc) ∧ W.cell? ⟨ob, 1, none⟩ = some (inV (r 0)) ∧ W.cell? ⟨ob, 2, none⟩ = some (inV (r 1)) ∧ W.cell? ⟨ob, 3, none⟩ = some (inV (r 2)) ∧ W.cell? ⟨ob, 4, none⟩ = some (inV (r 3)) ∧ W.cell? ⟨ob, 5, none⟩ = some (inV (r 4)) ∧ W.cell? ⟨ob, 6, none⟩ = some (inV (r 5)) ∧ W.cell? ⟨ob, 7, none⟩ = some (inV (r 6)) ∧ W.cell? ⟨ob, 8, none⟩ = some (inV (r 7)) := fun W hW => by
      have q := hW.blk (fun q => q) Hbw1.out
      exact ⟨Hc.out W (Hfw1.out.trans0 hW), blk_cell q 0 rfl, blk_cell q 1 rfl, blk_cell q 2 rfl, blk_cell q 3 rfl, blk_cell q 4 rfl, blk_cell q 5 rfl, blk_cell q 6 rfl, blk_cell q 7 rfl, blk_cell q 8 rfl⟩
    have Key := Lib.hid key; have Key0 := Lib.hid key0
    clear key key0
    have hf0 : Fr Nob w1 w1 := Fr.refl _ _
    go_region_held3 (fun W => W.cell? ⟨wb, 2, none⟩ = some (ptV tb) ∧ W.cell? ⟨ob, 0, none⟩ = some (inV pc) ∧ W.cell? ⟨ob, 1, none⟩ = some (inV (r 0)) ∧ W.cell? ⟨ob, 2, none⟩ = some (inV (r 1)) ∧ W.cell? ⟨ob, 3, none⟩ = some (inV (r 2)) ∧ W.cell? ⟨ob, 4, none⟩ = some (inV (r 3)) ∧ W.cell? ⟨ob, 5, none⟩ = some (inV (r 4)) ∧ W.cell? ⟨ob, 6, none⟩ = some (inV (r 5)) ∧ W.cell? ⟨ob, 7, none⟩ = some (inV (r 6)) ∧ W.cell? ⟨ob, 8, none⟩ = some (inV (r 7)))
      ((first | with_reducible exact k2s.out | with_reducible exact Key0.out _ hf0 | exact Key0.out _ hf0.drew))
      ((go_at_call 62; refine (Hcall.out w1.drew (Hfw1.out.drew)).mono ?_; rintro e w2 ⟨rfl, hn2, hc2⟩; have hb2 : w2.heap[ob]? = some (.cells (outA pc r told v ended) 138 (0, 0)) := (by obtain ⟨_, q, _⟩ := hn2; exact q.blk (w := w1.drew) hobS Hbw1.out); have k2s : Hid (w2.cell? ⟨wb, 2, none⟩ = some (ptV tb) ∧ w2.cell? ⟨ob, 0, none⟩ = some (inV pc) ∧ w2.cell? ⟨ob, 1, none⟩ = some (inV (r 0)) ∧ w2.cell? ⟨ob, 2, none⟩ = some (inV (r 1)) ∧ w2.cell? ⟨ob, 3, none⟩ = some (inV (r 2)) ∧ w2.cell? ⟨ob, 4, none⟩ = some (inV (r 3)) ∧ w2.cell? ⟨ob, 5, none⟩ = some (inV (r 4)) ∧ w2.cell? ⟨ob, 6, none⟩ = some (inV (r 5)) ∧ w2.cell? ⟨ob, 7, none⟩ = some (inV (r 6)) ∧ w2.cell? ⟨ob, 8, none⟩ = some (inV (r 7))) := Lib.hid ⟨hc2, blk_cell hb2 0 rfl, blk_cell hb2 1 rfl, blk_cell hb2 2 rfl, blk_cell hb2 3 rfl, blk_cell hb2 4 rfl, blk_cell hb2 5 rfl, blk_cell hb2 6 rfl, blk_cell hb2 7 rfl, blk_cell hb2 8 rfl⟩; have Hn2 := Lib.hid hn2; have Hb2 := Lib.hid hb2; clear hn2 hc2 hb2))
    have hs := Hs.out
    cases told with
    | false =>
      simp only [if_neg (Bool.false_ne_true)] at hs
      have k9 := blk_cell Hb2.out 9 rfl
      have k11 := blk_cell Hb2.out 11 rfl
      cases ended with
      | false =>
        simp only [if_neg (Bool.false_ne_true), Option.some.injEq] at hs
        subst hs
        go_wp2_with fail
        go_end0
        exact ⟨rfl, Nx.from0 Hfw1.out.drew Hn2.out⟩
      | true =>
        simp only [if_true] at hs
        split at hs
        · cases hs
        · next s3 he =>
          obtain ⟨hev3, rfl⟩ := tellO_some hs
          obtain ⟨tb3, hc3, hcall3⟩ := Hn2.out.tend he
          have k3 := hc3 w2 (Fr.refl _ _)
          obtain rfl : tb3 = tb := by simpa using k3.symm.trans k2s.out.1
          have Hcall3 := Lib.hid hcall3
          clear hs hc3 hcall3 he
          go_wp2_with fail
          refine (Hcall3.out w2 (Fr.refl _ _)).mono ?_
          rintro e w5 ⟨rfl, hn5⟩
          have Ht5 := Lib.hid (hn5.tell 4 (id : Int) 0 0 0 (by omega))
          clear hn5 k3
          go_wp2_with fail
          refine (Ht5.out w5 (Fr.refl _ _)).mono ?_
          rintro e w6 ⟨rfl, hn6⟩
          have Hn6 := Lib.hid hn6
          clear hn6
          go_wp2_with fail
          go_end0
          exact ⟨rfl, Nx.from0 Hfw1.out.drew Hn6.out⟩
    | true =>
      simp only [if_true] at hs
      split at hs
      · cases hs
      · next s2 ht =>
        obtain ⟨hev2, rfl⟩ := tellO_some ht
        have Ht2 := Lib.hid (Hn2.out.tell 1 (id : Int) v 0 0 (by omega))
        have k9 := blk_cell Hb2.out 9 rfl
        have k10 := blk_cell Hb2.out 10 rfl
        clear ht
        go_wp2_with fail
        refine (Ht2.out w2 (Fr.refl _ _)).mono ?_
        rintro e w4 ⟨rfl, hn4⟩
        have hb4 := hn4.blk hobS (w := w1.drew) Hbw1.out
        have k11 := blk_cell hb4 11 rfl
        have Hn4 := Lib.hid hn4
        clear hn4 hb4 k9 k10
        cases ended with
        | false =>
          simp only [if_neg (Bool.false_ne_true), Option.some.injEq] at hs
          subst hs
          go_wp2_with fail
          go_end0
          exact ⟨rfl, Nx.from0 Hfw1.out.drew Hn4.out⟩
        | true =>
          simp only [if_true] at hs
          split at hs
          · cases hs
          · next s3 he =>
            obtain ⟨hev3, rfl⟩ := tellO_some hs
            obtain ⟨tb3, hc3, hcall3⟩ := Hn4.out.tend he
            have k3 := hc3 w4 (Fr.refl _ _)
            have Hcall3 := Lib.hid hcall3
            clear hs hc3 hcall3 he
            go_wp2_with fail
            refine (Hcall3.out w4 (Fr.refl _ _)).mono ?_
            rintro e w5 ⟨rfl, hn5⟩
            have Ht5 := Lib.hid (hn5.tell 4 (id : Int) 0 0 0 (by omega))
            clear hn5 k3
            go_wp2_with fail
            refine (Ht5.out w5 (Fr.refl _ _)).mono ?_
            rintro e w6 ⟨rfl, hn6⟩
            have Hn6 := Lib.hid hn6
            clear hn6
            go_wp2_with fail
            go_end0
            exact ⟨rfl, Nx.from0 Hfw1.out.drew Hn6.out⟩
end
theorem Tryz.info_kase : (Tryz.prog.info? 242).map (fun i => (i.zero, i.size, i.bytes)) = some (some (.agg #[.pointer none, .bool false, .int .i64 0]), 3, 24) := by kernel_rfl
theorem cases_get {st : WS} {r : Nat → Int} : ∀ {cs : List ICs} {l : List Cs}, st.cases r cs = some l → l.length = cs.length ∧ ∀ (k : Nat) (x : ICs), cs[k]? = some x → ∃ o, st.chan (r x.2.1.toNat) = some o ∧ l[k]? = some (o, x.1, r x.2.2.toNat)
  | [], l, h => by simp [WS.cases] at h; subst h; exact ⟨rfl, fun k x hx => by simp at hx⟩
  | c :: cs, l, h => by
    unfold WS.cases at h
    split at h
    · cases h
    · next o ho =>
      split at h
      · cases h
      · next q hq =>
        cases h
        obtain ⟨h1, h2⟩ := cases_get hq
        refine ⟨by simp [h1], fun k x hx => ?_⟩
        cases k with
        | zero => simp at hx; subst hx; exact ⟨o, ho, rfl⟩
        | succ k => exact h2 k x (by simpa using hx)
theorem regR_cell {w : World} {rb : Nat} {r : Nat → Int} (h : w.heap[rb]? = some (.cells (regR r) 74 (0, 0))) (y : Nat) (hy : y < 8) : w.cell? ⟨rb, y, none⟩ = some (inV (r y)) := by
  match y, hy with
  | 0, _ => exact blk_cell h 0 rfl
  | 1, _ => exact blk_cell h 1 rfl
  | 2, _ => exact blk_cell h 2 rfl
  | 3, _ => exact blk_cell h 3 rfl
  | 4, _ => exact blk_cell h 4 rfl
  | 5, _ => exact blk_cell h 5 rfl
  | 6, _ => exact blk_cell h 6 rfl
  | 7, _ => exact blk_cell h 7 rfl
set_option maxHeartbeats 2000000 in
theorem world_cases {w : World} {F : Nat → Nat → Prop} {c : Cfg} {P : Pg} {st : WS} {nd nm : Nat} (h : WP H0 w F c P st nd nm) (op ia ib ic : Int) (cv : Value) (df : Bool) (cs : List ICs) (n : Nat) (hn : cs.length = n) (hn16 : n ≤ 16) (hrd : Rd w 3 cv n (cs.flatMap icsEn)) (r : Nat → Int) (hreg : ∀ x ∈ cs, csB x = true) {l : List Cs} (hl : st.cases r cs = some l) :
    Calls Tryz.prog 122 #[ptV c.wb, .agg #[inV op, inV ia, inV ib, inV ic, cv, .bool df], .agg (regR r)] w fun e w' => ∃ v, e = .returned (.tuple #[v, .bool true]) ∧ Fr Nob w w' ∧ Sl w' (fun q => w.heap.size ≤ q ∧ q < w'.heap.size) 242 3 v n (css c.B l) := by
  obtain ⟨_, _, A, cp, rfl, hc1, hc2, hA⟩ := hrd
  have Hg := Lib.hid (cases_get hl)
  have Hch := Lib.hid (fun W (hW : Fr Nob w W) => world_channel (h.fr0 hW))
  have HA := Lib.hid hA; have Hn := Lib.hid hn; have Hreg := Lib.hid hreg
  clear h hA hl hn hreg
  go_enter Tryz.func122, Tryz.ntmps122
  go_wp2_with fail
  obtain ⟨w1, hw1⟩ : ∃ w1, w1 = (w.alloc (.cells #[inV op, inV ia, inV ib, inV ic, .slice A n cp, .bool df] 25)).alloc (.cells (regR r) 74) := ⟨_, rfl⟩
  rw [← hw1]
  have hf1 : Fr Nob w w1 := by rw [hw1]; exact ((Fr.refl Nob w).alloc _).alloc _
  have hrb : w1.heap[w.heap.size + 1]? = some (.cells (regR r) 74 (0, 0)) := by rw [hw1]; exact blk_alloc_eq _ (by simp)
  obtain ⟨rb, hrb'⟩ : ∃ rb, rb = w.heap.size + 1 := ⟨_, rfl⟩
  rw [← hrb'] at hrb ⊢
  obtain ⟨xb, hxb⟩ : ∃ xb, xb = w.heap.size := ⟨_, rfl⟩
  have Hf1 := Lib.hid hf1; have Hrb := Lib.hid hrb
  have Hrb' := Lib.hid hrb'
  clear hw1 hf1 hrb hrb' hxb
  go_loopw [6, 15] (fun ov i wr => ∃ k : Nat, k ≤ n ∧ i = .int .i64 k ∧ Hid (Fr Nob w1 wr ∧ Sl wr (fun q => w1.heap.size ≤ q ∧ q < wr.heap.size) 242 3 ov k (css c.B (l.take k)))) (fun _ i _ => n - (intOf i).toNat)
  case atStart => exact ⟨0, Nat.zero_le _, rfl, Lib.hid ⟨Fr.refl _ _, Sl.nil _ _ _ _⟩⟩
  case round =>
    obtain ⟨k, hk, rfl, hr⟩ := hrel
    by_cases hlt : k < n
    · obtain ⟨x, hx⟩ : ∃ x, cs[k]? = some x := ⟨cs[k]'(by rw [Hn.out]; exact hlt), by simp⟩
      obtain ⟨o, ho, hlk⟩ := Hg.out.2 k x hx
      obtain ⟨hfr, hsl⟩ := hr.out
      obtain ⟨Ao, co, rfl⟩ := hsl.slice
      obtain ⟨g, off, rfl, hgl, hc⟩ := HA.out (by omega)
      have hq : ∀ j u, j < 3 → (icsEn x)[j]? = some u → wr.cell? ⟨g, off + (k * 3 + j), none⟩ = some u := fun j u hj hu => (Hf1.out.trans0 hfr).cell (p := ⟨g, off + (k * 3 + j), none⟩) (fun q => q) (hc _ _ ((csGet cs k j x hx hj).trans hu))
      have q0 := hq 0 _ (by omega) rfl
      have q1 := hq 1 _ (by omega) rfl
      have q2 := hq 2 _ (by omega) rfl
      rw [← Nat.add_assoc] at q1 q2
      rw [Nat.add_zero] at q0
      have hcb := Hreg.out x (List.mem_of_getElem? hx)
      obtain ⟨xs, xc, xv⟩ := x
      unfold csB at hcb
      simp only [Bool.and_eq_true] at hcb
      obtain ⟨⟨hb1, hb2⟩, _⟩ := hcb
      obtain ⟨y, rfl, hy⟩ := reg_of hb1
      obtain ⟨z, rfl, hz⟩ := reg_of hb2
      dsimp only at q0 q1 q2 ho hlk
      simp only [Int.toNat_natCast] at ho hlk
      have hrr := hfr.blk (fun q => q) Hrb.out
      have ry := regR_cell hrr y hy
      have rz := regR_cell hrr z hz
      have ry' := ((Fr.refl Nob wr).alloc (.cells #[.bool xs, inV (y : Int), inV (z : Int)] 27)).cell (fun q => q) ry
      have rz' := ((Fr.refl Nob wr).alloc (.cells #[.bool xs, inV (y : Int), inV (z : Int)] 27)).cell (fun q => q) rz
      have hy8 : (y : Int) < 8 := by omega
      have hz8 : (z : Int) < 8 := by omega
      have hki : (k : Int) < n := by omega
      have Hcall := Lib.hid (Hch.out (wr.alloc (.cells #[.bool xs, inV (y : Int), inV (z : Int)] 27)) ((Hf1.out.trans0 hfr).alloc _) (r y) o ho)
      have Hfr := Lib.hid hfr; have Hsl := Lib.hid hsl; have Hlk := Lib.hid hlk
      clear hc hq hx hb1 hb2 ho hlk hfr hsl hr hrr ry rz
      go_wp2_with fail
      refine Hcall.out.mono ?_
      rintro e _ ⟨rfl, rfl⟩
      obtain ⟨w2, hw2⟩ : ∃ w2, w2 = wr.alloc (.cells #[.bool xs, inV (y : Int), inV (z : Int)] 27) := ⟨_, rfl⟩
      rw [← hw2] at ry' rz' ⊢
      obtain ⟨kb, hkb⟩ : ∃ kb, kb = wr.heap.size := ⟨_, rfl⟩
      try rw [← hkb]
      have hf2 : Fr Nob wr w2 := by rw [hw2]; exact (Fr.refl Nob wr).alloc _
      have hb2 : w2.heap[kb]? = some (.cells #[.bool xs, inV (y : Int), inV (z : Int)] 27 (0, 0)) := by rw [hw2, hkb]; exact heap_alloc_new _ _
      have k0 := blk_cell hb2 0 rfl; have k2 := blk_cell hb2 2 rfl
      have Hf2 := Lib.hid hf2
      clear hw2 hkb hf2 hb2 q0 q1 q2 Hcall ry'
      go_wp2_with fail
      go_region_law ((refine step_append_sl _ (by rfl) _ _ _ (by rfl) (fun q => w1.heap.size ≤ q ∧ q < wr.heap.size) 242 _ 3 24 Tryz.underlying227 Tryz.info_kase rfl (by omega) (.slice Ao k co) k (css c.B (l.take k)) (by rfl) (((Hsl.out.fr Hf2.out (fun _ _ q => q)).alloc _).drew) ⟨w2.heap.size, 0, none⟩ 1 1 [.pointer (pa c.B o), .bool xs, inV (r z)] (by rfl) (by rfl) (news_lit _ [.pointer (pa c.B o), .bool xs, inV (r z)] 242 (0, 0) _ (heap_alloc_new w2 _)) (by rfl) (by omega) (by omega) ?_; intro v3 w3 hs3 hf3; have Hs3 := Lib.hid hs3; have Hf3 := Lib.hid hf3; clear hs3 hf3))
      all_goals
        have hz3 := Hf3.out.size
        have hz2 := Hf2.out.size
        have hz1 := Hfr.out.size
        have hw1z : w.heap.size ≤ w1.heap.size := Hf1.out.size
        simp at hz3
        have hfin : Fr Nob w1 w3 := (Hfr.out.trans0 (Hf2.out.trans0 ((Fr.refl Nob w2).alloc _).drew)).trans Hf3.out fun q hq a => by omega
        have hsl3 : Sl w3 (fun q => w1.heap.size ≤ q ∧ q < w3.heap.size) 242 3 v3 (k + 1) (css c.B (l.take (k + 1))) := by
          rw [take_snocC l k _ Hlk.out]
          simp only [css, List.flatMap_append, List.flatMap_cons, List.flatMap_nil, List.append_nil]
          exact Hs3.out.mono fun q hq a => by rcases a with a | a; exact ⟨a.1, hq⟩; simp at a; exact ⟨by omega, hq⟩
        have Hfin := Lib.hid hfin; have Hsl3 := Lib.hid hsl3
        clear hfin hsl3 hz3 hz2 hz1 hw1z
        go_wp2_with fail
        go_roundw
        case rel => exact ⟨k + 1, by omega, by go_num, Lib.hid ⟨Hfin.out, Hsl3.out⟩⟩
        case measure => simp [intOf]; omega
    · obtain rfl : k = n := by omega
      obtain ⟨hfr, hsl⟩ := hr.out
      rw [List.take_of_length_le (by rw [Hg.out.1, Hn.out]; exact Nat.le_refl _)] at hsl
      have Hfr := Lib.hid (Hf1.out.trans0 hfr); have Hsl := Lib.hid hsl
      clear hfr hsl hr
      go_wp2_with fail
      go_ret2
      exact ⟨_, rfl, Hfr.out, Hsl.out.mono fun q _ a => ⟨by have : w.heap.size ≤ w1.heap.size := Hf1.out.size; omega, a.2⟩⟩
end Go.Proofs.YtcffplgimbbflaaGreat
