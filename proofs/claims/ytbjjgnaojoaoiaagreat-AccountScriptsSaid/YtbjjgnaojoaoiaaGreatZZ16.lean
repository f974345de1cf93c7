/- Laws. -/
import Derived.Test.YtbjjgnaojoaoiaaGreatZZ15
namespace Go.Proofs.YtbjjgnaojoaoiaaGreat
open Go.RowKit Go
set_option linter.unusedVariables false
set_option linter.unusedSimpArgs false
set_option maxHeartbeats 3200000
set_option maxRecDepth 100000
def StepOf (w : World) (B gb : Nat) (r : Ac × Mv × Int) (e : Ending) (w' : World) : Prop := Below B w w' ∧
 ((r.2.2 = 0 ∧ e = .returned (mvR r.2.1 0) ∧ OwnAt w' B gb r.1) ∨ (r.2.2 ≠ 0 ∧ (e = .returned (mvR Mv.zero r.2.2) ∨ e = pan r.2.2)))
def DoesOf (w : World) (g : Nat) (S : Ac) (r : Ac × Mv × Int) (e : Ending) (w' : World) : Prop := w.grownBy w' (some g) ∧
 ((r.2.2 = 0 ∧ e = .returned (mvR r.2.1 0) ∧ OwnAt w' 0 g r.1) ∨ (r.2.2 ≠ 0 ∧ e = .returned (mvR Mv.zero r.2.2) ∧ OwnAt w' 0 g S))
def Ac.small (S : Ac) : Prop := S.ms.length ≤ 1000 ∧ S.ps.length ≤ 1000 ∧ ∀ p ∈ S.ms, p.parts.length ≤ 1000
@[reducible] def put6 (w : World) (g : Nat) (m : Mv) : World := (((((w.setCell ⟨g, 0, none⟩ (.int .i64 m.c0)).setCell ⟨g, 1, none⟩ (.int .i64 m.c1)).setCell ⟨g, 2, none⟩ (.int .i64 m.c2)).setCell ⟨g, 3, none⟩ (.int .i64 m.paid)).setCell ⟨g, 4, none⟩ (.int .i64 m.cr)).setCell ⟨g, 5, none⟩ (.int .i64 m.cash)
@[reducible] def put5 (w : World) (g : Nat) (v0 v1 v2 v3 v4 : Value) : World := ((((w.setCell ⟨g, 0, none⟩ v0).setCell ⟨g, 1, none⟩ v1).setCell ⟨g, 2, none⟩ v2).setCell ⟨g, 3, none⟩ v3).setCell ⟨g, 4, none⟩ v4
theorem put6_at {w : World} {g T : Nat} {v0 v1 v2 v3 v4 v5 : Value} (h : w.heap[g]? = some (.cells #[v0, v1, v2, v3, v4, v5] T (0, 0))) (m : Mv) : (put6 w g m).heap[g]? = some (.cells #[.int .i64 m.c0, .int .i64 m.c1, .int .i64 m.c2, .int .i64 m.paid, .int .i64 m.cr, .int .i64 m.cash] T (0, 0)) := by
 have a0 := blk_set h 0 (.int .i64 m.c0)
 have a1 := blk_set a0 1 (.int .i64 m.c1)
 have a2 := blk_set a1 2 (.int .i64 m.c2)
 have a3 := blk_set a2 3 (.int .i64 m.paid)
 have a4 := blk_set a3 4 (.int .i64 m.cr)
 have a5 := blk_set a4 5 (.int .i64 m.cash)
 exact a5
theorem put5_at {w : World} {g T : Nat} {u0 u1 u2 u3 u4 : Value} (h : w.heap[g]? = some (.cells #[u0, u1, u2, u3, u4] T (0, 0))) (v0 v1 v2 v3 v4 : Value) : (put5 w g v0 v1 v2 v3 v4).heap[g]? = some (.cells #[v0, v1, v2, v3, v4] T (0, 0)) := by
 have a0 := blk_set h 0 v0
 have a1 := blk_set a0 1 v1
 have a2 := blk_set a1 2 v2
 have a3 := blk_set a2 3 v3
 have a4 := blk_set a3 4 v4
 exact a4
theorem set_far (w : World) (g i : Nat) (u : Value) {k : Nat} (h : k ≠ g) : (w.setCell ⟨g, i, none⟩ u).heap[k]? = w.heap[k]? := Below.heap_setCell w ⟨g, i, none⟩ u k h
theorem put6_far (w : World) (g : Nat) (m : Mv) {k : Nat} (h : k ≠ g) : (put6 w g m).heap[k]? = w.heap[k]? := by simp only [put6, set_far _ _ _ _ h]
theorem put5_far (w : World) (g : Nat) (v0 v1 v2 v3 v4 : Value) {k : Nat} (h : k ≠ g) : (put5 w g v0 v1 v2 v3 v4).heap[k]? = w.heap[k]? := by simp only [put5, set_far _ _ _ _ h]
def noPan (Q : Exit → Act → World → Prop) : Exit → Act → World → Prop
 | .panic _, _, _ => False
 | e, a, w => Q e a w
theorem noPan_le (Q : Exit → Act → World → Prop) : ∀ e a w, noPan Q e a w → Q e a w := by
 intro e a w h
 cases e with
 | panic c => exact h.elim
 | _ => exact h
@[reducible] def doneW (w2 : World) (gm ge g : Nat) (m : Mv) (v0 v1 v2 v3 v4 : Value) : World :=
 ((put6 (put5 ((put6 w2 gm m).setCell ⟨ge, 0, none⟩ (.int .i64 0)) g v0 v1 v2 v3 v4) gm m).setCell ⟨ge, 0, none⟩ (.int .i64 0))
theorem doneW_facts {w2 : World} {gm ge g T : Nat} {m : Mv} {u0 u1 u2 u3 u4 x0 x1 x2 x3 x4 x5 y v0 v1 v2 v3 v4 : Value} (hm : w2.heap[gm]? = some (.cells #[x0, x1, x2, x3, x4, x5] 33 (0, 0))) (he : w2.heap[ge]? = some (.cells #[y] 28 (0, 0)))
  (hg : w2.heap[g]? = some (.cells #[u0, u1, u2, u3, u4] T (0, 0))) (h1 : gm ≠ ge) (h2 : gm ≠ g) (h3 : ge ≠ g) :
  (doneW w2 gm ge g m v0 v1 v2 v3 v4).heap[gm]? = some (.cells #[.int .i64 m.c0, .int .i64 m.c1, .int .i64 m.c2, .int .i64 m.paid, .int .i64 m.cr, .int .i64 m.cash] 33 (0, 0)) ∧
  (doneW w2 gm ge g m v0 v1 v2 v3 v4).heap[ge]? = some (.cells #[.int .i64 0] 28 (0, 0)) ∧
  (doneW w2 gm ge g m v0 v1 v2 v3 v4).heap[g]? = some (.cells #[v0, v1, v2, v3, v4] T (0, 0)) ∧
  (∀ k, k ≠ gm → k ≠ ge → k ≠ g → (doneW w2 gm ge g m v0 v1 v2 v3 v4).heap[k]? = w2.heap[k]?) := by
 have a1 := put6_at hm m
 have a2 := (set_far (put6 w2 gm m) ge 0 (.int .i64 0) h1).trans a1
 have a3 := (put5_far ((put6 w2 gm m).setCell ⟨ge, 0, none⟩ (.int .i64 0)) g v0 v1 v2 v3 v4 h2).trans a2
 have a4 := put6_at a3 m
 have b1 := (put6_far w2 gm m (Ne.symm h1)).trans he
 have b2 := blk_set b1 0 (.int .i64 0)
 have b3 := (put5_far ((put6 w2 gm m).setCell ⟨ge, 0, none⟩ (.int .i64 0)) g v0 v1 v2 v3 v4 h3).trans b2
 have b4 := (put6_far (put5 ((put6 w2 gm m).setCell ⟨ge, 0, none⟩ (.int .i64 0)) g v0 v1 v2 v3 v4) gm m (Ne.symm h1)).trans b3
 have c1 := (put6_far w2 gm m (Ne.symm h2)).trans hg
 have c2 := (set_far (put6 w2 gm m) ge 0 (.int .i64 0) (Ne.symm h3)).trans c1
 have c3 := put5_at c2 v0 v1 v2 v3 v4
 have c4 := (put6_far (put5 ((put6 w2 gm m).setCell ⟨ge, 0, none⟩ (.int .i64 0)) g v0 v1 v2 v3 v4) gm m (Ne.symm h2)).trans c3
 refine ⟨(set_far _ ge 0 _ h1).trans a4, blk_set b4 0 (.int .i64 0), (set_far _ ge 0 _ (Ne.symm h3)).trans c4, fun k k1 k2 k3 => ?_⟩
 exact (set_far _ ge 0 _ k2).trans ((put6_far _ gm m k1).trans ((put5_far _ g _ _ _ _ _ k3).trans ((set_far _ ge 0 _ k2).trans (put6_far _ gm m k1))))
theorem doneW_same (w2 : World) (gm ge g : Nat) (m : Mv) (v0 v1 v2 v3 v4 : Value) : (doneW w2 gm ge g m v0 v1 v2 v3 v4).os = w2.os ∧ (doneW w2 gm ge g m v0 v1 v2 v3 v4).tape = w2.tape ∧ (doneW w2 gm ge g m v0 v1 v2 v3 v4).output = w2.output ∧ (doneW w2 gm ge g m v0 v1 v2 v3 v4).heap.size = w2.heap.size := by
 refine ⟨by simp only [sc_os], by simp only [sc_tape], by simp only [sc_output], by simp only [World.size_setCell]⟩
theorem own_keep {w w' : World} {base n s : Nat} {e : TypeId} {v : Value} {xs : List Value} (h : w.ownsRow base e s v n xs) (hk : ∀ (b : Nat) (cs : Array Value), w.heap[b]? = some (.cells cs e (0, 0)) → w'.heap[b]? = w.heap[b]?) : w'.ownsRow base e s v n xs := by
 refine ⟨h.1, ?_⟩
 rcases h.2 with h2 | ⟨g, cap, cur, rfl, hb2, hg, r⟩
 · exact .inl h2
 · exact .inr ⟨g, cap, cur, rfl, hb2, (hk g cur hg).trans hg, r⟩
theorem done_end {w w2 : World} {gb g B : Nat} {S S' : Ac} {m : Mv} {x0 x1 x2 x3 x4 x5 y u0 u1 u2 u3 u4 vp vq : Value} {qs : List PmE} (hm : w2.heap[w.heap.size]? = some (.cells #[x0, x1, x2, x3, x4, x5] 33 (0, 0))) (he : w2.heap[w.heap.size + 1]? = some (.cells #[y] 28 (0, 0)))
  (hg : w2.heap[g]? = some (.cells #[u0, u1, u2, u3, u4] 83 (0, 0))) (hgl : g < w.heap.size) (ho : OwnV w2 B gb S' vp vq qs) (hb : Below w.heap.size w w2) :
  (doneW w2 w.heap.size (w.heap.size + 1) g m (.int .i64 S'.day) (.int .i64 S'.bp) (.int .i64 S'.cr) vp vq).drew.heap[w.heap.size]? = some (.cells #[.int .i64 m.c0, .int .i64 m.c1, .int .i64 m.c2, .int .i64 m.paid, .int .i64 m.cr, .int .i64 m.cash] 33 (0, 0)) ∧
  (doneW w2 w.heap.size (w.heap.size + 1) g m (.int .i64 S'.day) (.int .i64 S'.bp) (.int .i64 S'.cr) vp vq).drew.heap[w.heap.size + 1]? = some (.cells #[.int .i64 0] 28 (0, 0)) ∧
  DoesOf w g S (S', m, 0) (.returned (mvR m 0)) (doneW w2 w.heap.size (w.heap.size + 1) g m (.int .i64 S'.day) (.int .i64 S'.bp) (.int .i64 S'.cr) vp vq).drew := by
 obtain ⟨f1, f2, f3, f4⟩ := doneW_facts (v0 := .int .i64 S'.day) (v1 := .int .i64 S'.bp) (v2 := .int .i64 S'.cr) (v3 := vp) (v4 := vq) (m := m) hm he hg (by omega) (by omega) (by omega)
 obtain ⟨q1, q2, q3, q4⟩ := doneW_same w2 w.heap.size (w.heap.size + 1) g m (.int .i64 S'.day) (.int .i64 S'.bp) (.int .i64 S'.cr) vp vq
 generalize doneW w2 w.heap.size (w.heap.size + 1) g m (.int .i64 S'.day) (.int .i64 S'.bp) (.int .i64 S'.cr) vp vq = W at *
 have keep : ∀ (b : Nat) (cs : Array Value) (t : Nat), w2.heap[b]? = some (.cells cs t (0, 0)) → t ≠ 33 → t ≠ 28 → t ≠ 83 → W.heap[b]? = w2.heap[b]? := fun b cs t h t1 t2 t3 =>
  f4 b (ne_of_type' h hm t1) (ne_of_type' h he t2) (ne_of_type' h hg t3)
 refine ⟨f1, f2, ⟨q1.trans hb.os, q2.trans hb.tape, q3.trans hb.output, by rw [show W.drew.heap = W.heap from rfl, q4]; exact hb.size, fun k hk hne => ?_⟩, .inl ⟨rfl, rfl, vp, vq, qs, f3, Nat.zero_le _, ?_, ?_, ho.hm, fun q hq => ?_⟩⟩
 · exact (f4 k (by omega) (by omega) (fun e => hne (by rw [e]))).trans (hb.block k hk)
 · exact own_mono (own_keep (w' := W) ho.hp (fun b cs h => keep b cs _ h (by decide) (by decide) (by decide))) (Nat.zero_le _)
 · exact own_mono (own_keep (w' := W) ho.hq (fun b cs h => keep b cs _ h (by decide) (by decide) (by decide))) (Nat.zero_le _)
 · exact (ho.parts q hq).keep (w' := W) (fun b cs h => keep b cs _ h (by decide) (by decide) (by decide))
@[reducible] def failW (w2 : World) (gm ge : Nat) (e : Int) : World := (put6 ((put6 w2 gm Mv.zero).setCell ⟨ge, 0, none⟩ (.int .i64 e)) gm Mv.zero).setCell ⟨ge, 0, none⟩ (.int .i64 e)
theorem failW_caught {w2 : World} {gm ge : Nat} {e : Int} {x0 x1 x2 x3 x4 x5 y : Value} (hm : w2.heap[gm]? = some (.cells #[x0, x1, x2, x3, x4, x5] 33 (0, 0))) (he : w2.heap[ge]? = some (.cells #[y] 28 (0, 0))) (h1 : gm ≠ ge) : Caught w2 gm ge e (failW w2 gm ge e) := by
 have a1 := put6_at hm Mv.zero
 have a2 := (set_far (put6 w2 gm Mv.zero) ge 0 (.int .i64 e) h1).trans a1
 have a3 := put6_at a2 Mv.zero
 have b1 := (put6_far w2 gm Mv.zero (Ne.symm h1)).trans he
 have b2 := blk_set b1 0 (.int .i64 e)
 have b3 := (put6_far ((put6 w2 gm Mv.zero).setCell ⟨ge, 0, none⟩ (.int .i64 e)) gm Mv.zero (Ne.symm h1)).trans b2
 refine ⟨by simp only [sc_os], by simp only [sc_tape], by simp only [sc_output], by simp only [World.size_setCell], (set_far _ ge 0 _ h1).trans a3, blk_set b3 0 (.int .i64 e), fun k k1 k2 => ?_⟩
 exact (set_far _ ge 0 _ k2).trans ((put6_far _ gm Mv.zero k1).trans ((set_far _ ge 0 _ k2).trans (put6_far _ gm Mv.zero k1)))
theorem caught_does {w w2 W : World} {g B : Nat} {S S' : Ac} {m : Mv} {e : Int} (h : Caught w2 w.heap.size (w.heap.size + 1) e W) (he : e ≠ 0) (ho : OwnAt w B g S) (hb : Below w.heap.size w w2) :
  DoesOf w g S (S', m, e) (.returned (mvR Mv.zero e)) W := by
 have hbW : Below w.heap.size w W := ⟨h.os.trans hb.os, h.tape.trans hb.tape, h.output.trans hb.output, by rw [h.size]; exact hb.size, fun k hk => (h.far k (by omega) (by omega)).trans (hb.block k hk)⟩
 exact ⟨⟨hbW.os, hbW.tape, hbW.output, hbW.size, fun k hk _ => hbW.block k hk⟩, .inr ⟨he, rfl, (ho.below hbW).mono (Nat.zero_le _)⟩⟩
theorem results_does {P : Program} {fn : Func} {p q : Tmp} {ty te : TypeId} {d : TypeDesc} (h : fn.results = #[.cell p ty, .cell q te]) (tmps : Array Value) (w : World) (g ge : Nat) (t : TypeId) (cs : Array Value) (fr : Nat × Nat) (v : Value)
  (hp : tmps.getD p undef = .pointer (some ⟨g, 0, none⟩)) (hg : w.heap[g]? = some (.cells cs t fr)) (hq : tmps.getD q undef = .pointer (some ⟨ge, 0, none⟩)) (hl : (loadVar te ⟨ge, 0, none⟩).run P w = .ok v w)
  (hu : P.underlying ty = some d) (hd : (match d with | .struct _ | .array _ _ => true | _ => false) = true) (hi : (P.info? ty).map (·.size) = some cs.size) :
  (results fn tmps).run P w = .ok (.tuple #[.agg cs, v]) w := by
 have hp' : tmps[p]?.getD undef = .pointer (some ⟨g, 0, none⟩) := by simpa using hp
 have hq' : tmps[q]?.getD undef = .pointer (some ⟨ge, 0, none⟩) := by simpa using hq
 simp [results, h, hp', hq', asAddr, run_loadVar_row w g t ty cs fr d hg hu hd hi, hl]
theorem load_errno (ge : Nat) (e : Int) (w : World) (h : w.heap[ge]? = some (.cells #[.int .i64 e] 28 (0, 0))) : (loadVar 28 ⟨ge, 0, none⟩).run Tryz.prog w = .ok (.int .i64 e) w := by
 have hc : w.cell? ⟨ge, 0, none⟩ = some (.int .i64 e) := (blk_cell h 0).trans rfl
 simp [go_sem, hc]
theorem does2_any (K : Nat) (c1 c2 : Value) (g B : Nat) (S : Ac) (r : Ac × Mv × Int) (w : World) (h : OwnAt w B g S) (hS : S.small)
  (hcf : ∀ (u : Value) (wx : World), (callFunc K #[u, c1, c2]).run Tryz.prog wx = .ok (.enter K #[u, c1, c2]) wx)
  (hK : ∀ (gb : Nat) (wx : World), Below w.heap.size w wx → w.heap.size + 2 ≤ wx.heap.size → OwnAt wx (w.heap.size + 2) gb S → Calls Tryz.prog K #[.pointer (some ⟨gb, 0, none⟩), c1, c2] wx (StepOf wx (w.heap.size + 2) gb r)) :
  Calls Tryz.prog 37 #[.pointer (some ⟨g, 0, none⟩), .func (.func K) #[] #[c1, c2]] w (DoesOf w g S r) := by
 have hmf : ∀ (fn : Fn) (first cap : Array Value) (w : World), (Instr.makeFunc fn first cap).run Tryz.prog w = .ok (.func fn first cap) w := fun _ _ _ _ => rfl
 have hbb : Below w.heap.size w ((w.alloc (.cells #[.int .i64 0, .int .i64 0, .int .i64 0, .int .i64 0, .int .i64 0, .int .i64 0] 33)).alloc (.cells #[.int .i64 0] 28)) := ((Below.refl _ _).alloc (Nat.le_refl _) _).alloc (by simp) _
 have HC := hyd (copied_any g B S ((w.alloc (.cells #[.int .i64 0, .int .i64 0, .int .i64 0, .int .i64 0, .int .i64 0, .int .i64 0] 33)).alloc (.cells #[.int .i64 0] 28)) (h.below hbb) hS.1 hS.2.1 hS.2.2)
 have HO := hyd h; have HBB := hyd hbb
 have hm0 : ((w.alloc (.cells #[.int .i64 0, .int .i64 0, .int .i64 0, .int .i64 0, .int .i64 0, .int .i64 0] 33)).alloc (.cells #[.int .i64 0] 28)).heap[w.heap.size]? = some (.cells #[.int .i64 0, .int .i64 0, .int .i64 0, .int .i64 0, .int .i64 0, .int .i64 0] 33 (0, 0)) := blk_alloc (blk_new w _ rfl) _
 have he0 : ((w.alloc (.cells #[.int .i64 0, .int .i64 0, .int .i64 0, .int .i64 0, .int .i64 0, .int .i64 0] 33)).alloc (.cells #[.int .i64 0] 28)).heap[w.heap.size + 1]? = some (.cells #[.int .i64 0] 28 (0, 0)) := blk_new _ _ (by simp)
 obtain ⟨vp0, vq0, qs0, h0⟩ := h
 have HG0 := hyd h0.hg
 have hgl := blk_lt h0.hg
 have z0 : ((w.alloc (.cells #[.int .i64 0, .int .i64 0, .int .i64 0, .int .i64 0, .int .i64 0, .int .i64 0] 33)).alloc (.cells #[.int .i64 0] 28)).heap.size = w.heap.size + 2 := by simp
 have HM0 := hyd hm0; have HE0 := hyd he0; have HZ0 := hyd z0; have HKK := hyd hK
 have n1 : g ≠ w.heap.size := by omega
 have n2 : g ≠ w.heap.size + 1 := by omega
 have n3 : g ≠ w.heap.size + 1 + 1 := by omega
 have n1' : w.heap.size ≠ g := by omega
 have n2' : w.heap.size + 1 ≠ g := by omega
 have n3' : w.heap.size + 1 + 1 ≠ g := by omega
 clear h0 hm0 he0 hbb z0 hK
 go_enter_defers Tryz.func37, Tryz.ntmps37
 go_wp2_with fail
 refine HC.out.mono ?_; rintro e w1 ⟨rfl, ho1, hb1⟩
 have hbw1 : Below w.heap.size w w1 := HBB.out.trans (hb1.mono (by have := HZ0.out; omega))
 have HO1 : Hid (OwnAt w1 (w.heap.size + 2) (w.heap.size + 2) S) := hyd (by rw [HZ0.out] at ho1; exact ho1)
 have HB1 := hyd hbw1
 have HM1 := hyd (blk_below HM0.out hb1 (by have := HZ0.out; omega))
 have HE1 := hyd (blk_below HE0.out hb1 (by have := HZ0.out; omega))
 have hz1 : w.heap.size + 2 ≤ w1.heap.size := by have := HZ0.out; have := hb1.size; omega
 clear ho1 hb1 hbw1
 go_wp2_with fail
 refine (HKK.out (w.heap.size + 2) w1 HB1.out hz1 HO1.out).mono ?_
 rintro e w2 ⟨hb2, hh⟩
 have hm2 := blk_below HM1.out hb2 (by omega)
 have he2 := blk_below HE1.out hb2 (by omega)
 have hg2 := blk_below (blk_below HG0.out HB1.out hgl) hb2 (by omega)
 have hbw2 : Below w.heap.size w w2 := HB1.out.trans (hb2.mono (by omega))
 have hz2 : w.heap.size + 2 ≤ w2.heap.size := Nat.le_trans hz1 hb2.size
 obtain ⟨S', m, er⟩ := r
 rcases hh with ⟨h0, rfl, ho2⟩ | ⟨h0, rfl | rfl⟩
 · simp only at h0 ho2
   subst h0
   obtain ⟨vp, vq, qs, ho2⟩ := ho2
   obtain ⟨Ap, kp, rfl, _⟩ := ho2.rdp
   obtain ⟨Aq, kq, rfl, _⟩ := ho2.rdq
   obtain ⟨m0, m1, m2, m3, m4, m5, m6⟩ := cells6U hm2
   have e0 : w2.cell? ⟨w.heap.size + 1, 0, none⟩ = some (.int .i64 0) := (blk_cell he2 0).trans rfl
   have e1 : w2.frozen? ⟨w.heap.size + 1, 0, none⟩ = false := blk_free he2 0
   obtain ⟨g0, g1, g2, g3, g4, g5⟩ := cells5U hg2
   obtain ⟨b0, b1, b2, b3, b4, b5⟩ := cells5U ho2.hg
   have hm2l := blk_lt hm2; have he2l := blk_lt he2; have hg2l := blk_lt hg2
   have HM2 := hyd hm2; have HE2 := hyd he2; have HG2 := hyd hg2; have HO2 := hyd ho2; have HBW := hyd hbw2
   clear hm2 he2 hg2 ho2 hbw2 hb2
   go_wp2_with fail
   go_region_with (fail)
   all_goals go_wp2_with fail
   all_goals
    obtain ⟨E1, E2, E3⟩ := done_end (S := S) (m := m) HM2.out HE2.out HG2.out hgl HO2.out HBW.out
    refine leaves_cons (f := 95) (args := #[.pointer (some ⟨w.heap.size, 0, none⟩), .pointer (some ⟨w.heap.size + 1, 0, none⟩)]) (by simp) (by simp [go_sem]) ?_
    refine (catch_idle w.heap.size (w.heap.size + 1) _).mono ?_
    rintro e u' w'' ⟨rfl, rfl, rfl⟩
    exact ⟨_, results_does rfl _ _ _ _ _ _ _ _ rfl E1 rfl (load_errno _ _ _ E2) Tryz.underlying33 rfl (by kernel_rfl), E3⟩
 · simp only at h0
   obtain ⟨m0, m1, m2, m3, m4, m5, m6⟩ := cells6U hm2
   have e0 : w2.cell? ⟨w.heap.size + 1, 0, none⟩ = some (.int .i64 0) := (blk_cell he2 0).trans rfl
   have e1 : w2.frozen? ⟨w.heap.size + 1, 0, none⟩ = false := blk_free he2 0
   have hm2l := blk_lt hm2; have he2l := blk_lt he2
   have HM2 := hyd hm2; have HE2 := hyd he2; have HBW := hyd hbw2
   have hne0 : (er == 0) = false := by simpa using h0
   have HN0 := hyd h0
   clear hm2 he2 hg2 hbw2 hb2 h0
   go_wp2_with fail
   refine Code.wp_mono (noPan_le _) ?_
   go_region_law (fail)
   all_goals (simp only [noPan])
   all_goals go_wp2_with fail
   all_goals
    have E0 := (failW_caught (e := er) HM2.out HE2.out (by omega)).drew
    refine leaves_cons (f := 95) (args := #[.pointer (some ⟨w.heap.size, 0, none⟩), .pointer (some ⟨w.heap.size + 1, 0, none⟩)]) (by simp) (by simp [go_sem]) ?_
    refine (catch_idle w.heap.size (w.heap.size + 1) _).mono ?_
    rintro e u' w'' ⟨rfl, rfl, rfl⟩
    exact ⟨_, results_does rfl _ _ _ _ _ _ _ _ rfl E0.m rfl (load_errno _ _ _ E0.e) Tryz.underlying33 rfl (by kernel_rfl), caught_does E0 HN0.out HO.out HBW.out⟩
 · simp only at h0
   have HM2 := hyd hm2; have HE2 := hyd he2; have HBW := hyd hbw2
   have HN0 := hyd h0
   clear hm2 he2 hg2 hbw2 hb2 h0
   refine leaves_cons (f := 95) (args := #[.pointer (some ⟨w.heap.size, 0, none⟩), .pointer (some ⟨w.heap.size + 1, 0, none⟩)]) (by simp) (by simp [go_sem]) ?_
   refine (catch_pan w.heap.size (w.heap.size + 1) er Mv.zero 0 [] w2 HM2.out HE2.out (by omega)).mono ?_
   rintro e u' w'' ⟨rfl, rfl, E0⟩
   exact ⟨_, results_does rfl _ _ _ _ _ _ _ _ rfl E0.m rfl (load_errno _ _ _ E0.e) Tryz.underlying33 rfl (by kernel_rfl), caught_does E0 HN0.out HO.out HBW.out⟩
theorem does1_any (K : Nat) (c1 : Value) (g B : Nat) (S : Ac) (r : Ac × Mv × Int) (w : World) (h : OwnAt w B g S) (hS : S.small)
  (hcf : ∀ (u : Value) (wx : World), (callFunc K #[u, c1]).run Tryz.prog wx = .ok (.enter K #[u, c1]) wx)
  (hK : ∀ (gb : Nat) (wx : World), Below w.heap.size w wx → w.heap.size + 2 ≤ wx.heap.size → OwnAt wx (w.heap.size + 2) gb S → Calls Tryz.prog K #[.pointer (some ⟨gb, 0, none⟩), c1] wx (StepOf wx (w.heap.size + 2) gb r)) :
  Calls Tryz.prog 37 #[.pointer (some ⟨g, 0, none⟩), .func (.func K) #[] #[c1]] w (DoesOf w g S r) := by
 have hmf : ∀ (fn : Fn) (first cap : Array Value) (w : World), (Instr.makeFunc fn first cap).run Tryz.prog w = .ok (.func fn first cap) w := fun _ _ _ _ => rfl
 have hbb : Below w.heap.size w ((w.alloc (.cells #[.int .i64 0, .int .i64 0, .int .i64 0, .int .i64 0, .int .i64 0, .int .i64 0] 33)).alloc (.cells #[.int .i64 0] 28)) := ((Below.refl _ _).alloc (Nat.le_refl _) _).alloc (by simp) _
 have HC := hyd (copied_any g B S ((w.alloc (.cells #[.int .i64 0, .int .i64 0, .int .i64 0, .int .i64 0, .int .i64 0, .int .i64 0] 33)).alloc (.cells #[.int .i64 0] 28)) (h.below hbb) hS.1 hS.2.1 hS.2.2)
 have HO := hyd h; have HBB := hyd hbb
 have hm0 : ((w.alloc (.cells #[.int .i64 0, .int .i64 0, .int .i64 0, .int .i64 0, .int .i64 0, .int .i64 0] 33)).alloc (.cells #[.int .i64 0] 28)).heap[w.heap.size]? = some (.cells #[.int .i64 0, .int .i64 0, .int .i64 0, .int .i64 0, .int .i64 0, .int .i64 0] 33 (0, 0)) := blk_alloc (blk_new w _ rfl) _
 have he0 : ((w.alloc (.cells #[.int .i64 0, .int .i64 0, .int .i64 0, .int .i64 0, .int .i64 0, .int .i64 0] 33)).alloc (.cells #[.int .i64 0] 28)).heap[w.heap.size + 1]? = some (.cells #[.int .i64 0] 28 (0, 0)) := blk_new _ _ (by simp)
 obtain ⟨vp0, vq0, qs0, h0⟩ := h
 have HG0 := hyd h0.hg
 have hgl := blk_lt h0.hg
 have z0 : ((w.alloc (.cells #[.int .i64 0, .int .i64 0, .int .i64 0, .int .i64 0, .int .i64 0, .int .i64 0] 33)).alloc (.cells #[.int .i64 0] 28)).heap.size = w.heap.size + 2 := by simp
 have HM0 := hyd hm0; have HE0 := hyd he0; have HZ0 := hyd z0; have HKK := hyd hK
 have n1 : g ≠ w.heap.size := by omega
 have n2 : g ≠ w.heap.size + 1 := by omega
 have n3 : g ≠ w.heap.size + 1 + 1 := by omega
 have n1' : w.heap.size ≠ g := by omega
 have n2' : w.heap.size + 1 ≠ g := by omega
 have n3' : w.heap.size + 1 + 1 ≠ g := by omega
 clear h0 hm0 he0 hbb z0 hK
 go_enter_defers Tryz.func37, Tryz.ntmps37
 go_wp2_with fail
 refine HC.out.mono ?_; rintro e w1 ⟨rfl, ho1, hb1⟩
 have hbw1 : Below w.heap.size w w1 := HBB.out.trans (hb1.mono (by have := HZ0.out; omega))
 have HO1 : Hid (OwnAt w1 (w.heap.size + 2) (w.heap.size + 2) S) := hyd (by rw [HZ0.out] at ho1; exact ho1)
 have HB1 := hyd hbw1
 have HM1 := hyd (blk_below HM0.out hb1 (by have := HZ0.out; omega))
 have HE1 := hyd (blk_below HE0.out hb1 (by have := HZ0.out; omega))
 have hz1 : w.heap.size + 2 ≤ w1.heap.size := by have := HZ0.out; have := hb1.size; omega
 clear ho1 hb1 hbw1
 go_wp2_with fail
 refine (HKK.out (w.heap.size + 2) w1 HB1.out hz1 HO1.out).mono ?_
 rintro e w2 ⟨hb2, hh⟩
 have hm2 := blk_below HM1.out hb2 (by omega)
 have he2 := blk_below HE1.out hb2 (by omega)
 have hg2 := blk_below (blk_below HG0.out HB1.out hgl) hb2 (by omega)
 have hbw2 : Below w.heap.size w w2 := HB1.out.trans (hb2.mono (by omega))
 have hz2 : w.heap.size + 2 ≤ w2.heap.size := Nat.le_trans hz1 hb2.size
 obtain ⟨S', m, er⟩ := r
 rcases hh with ⟨h0, rfl, ho2⟩ | ⟨h0, rfl | rfl⟩
 · simp only at h0 ho2
   subst h0
   obtain ⟨vp, vq, qs, ho2⟩ := ho2
   obtain ⟨Ap, kp, rfl, _⟩ := ho2.rdp
   obtain ⟨Aq, kq, rfl, _⟩ := ho2.rdq
   obtain ⟨m0, m1, m2, m3, m4, m5, m6⟩ := cells6U hm2
   have e0 : w2.cell? ⟨w.heap.size + 1, 0, none⟩ = some (.int .i64 0) := (blk_cell he2 0).trans rfl
   have e1 : w2.frozen? ⟨w.heap.size + 1, 0, none⟩ = false := blk_free he2 0
   obtain ⟨g0, g1, g2, g3, g4, g5⟩ := cells5U hg2
   obtain ⟨b0, b1, b2, b3, b4, b5⟩ := cells5U ho2.hg
   have hm2l := blk_lt hm2; have he2l := blk_lt he2; have hg2l := blk_lt hg2
   have HM2 := hyd hm2; have HE2 := hyd he2; have HG2 := hyd hg2; have HO2 := hyd ho2; have HBW := hyd hbw2
   clear hm2 he2 hg2 ho2 hbw2 hb2
   go_wp2_with fail
   go_region_with (fail)
   all_goals go_wp2_with fail
   all_goals
    obtain ⟨E1, E2, E3⟩ := done_end (S := S) (m := m) HM2.out HE2.out HG2.out hgl HO2.out HBW.out
    refine leaves_cons (f := 95) (args := #[.pointer (some ⟨w.heap.size, 0, none⟩), .pointer (some ⟨w.heap.size + 1, 0, none⟩)]) (by simp) (by simp [go_sem]) ?_
    refine (catch_idle w.heap.size (w.heap.size + 1) _).mono ?_
    rintro e u' w'' ⟨rfl, rfl, rfl⟩
    exact ⟨_, results_does rfl _ _ _ _ _ _ _ _ rfl E1 rfl (load_errno _ _ _ E2) Tryz.underlying33 rfl (by kernel_rfl), E3⟩
 · simp only at h0
   obtain ⟨m0, m1, m2, m3, m4, m5, m6⟩ := cells6U hm2
   have e0 : w2.cell? ⟨w.heap.size + 1, 0, none⟩ = some (.int .i64 0) := (blk_cell he2 0).trans rfl
   have e1 : w2.frozen? ⟨w.heap.size + 1, 0, none⟩ = false := blk_free he2 0
   have hm2l := blk_lt hm2; have he2l := blk_lt he2
   have HM2 := hyd hm2; have HE2 := hyd he2; have HBW := hyd hbw2
   have hne0 : (er == 0) = false := by simpa using h0
   have HN0 := hyd h0
   clear hm2 he2 hg2 hbw2 hb2 h0
   go_wp2_with fail
   refine Code.wp_mono (noPan_le _) ?_
   go_region_law (fail)
   all_goals (simp only [noPan])
   all_goals go_wp2_with fail
   all_goals
    have E0 := (failW_caught (e := er) HM2.out HE2.out (by omega)).drew
    refine leaves_cons (f := 95) (args := #[.pointer (some ⟨w.heap.size, 0, none⟩), .pointer (some ⟨w.heap.size + 1, 0, none⟩)]) (by simp) (by simp [go_sem]) ?_
    refine (catch_idle w.heap.size (w.heap.size + 1) _).mono ?_
    rintro e u' w'' ⟨rfl, rfl, rfl⟩
    exact ⟨_, results_does rfl _ _ _ _ _ _ _ _ rfl E0.m rfl (load_errno _ _ _ E0.e) Tryz.underlying33 rfl (by kernel_rfl), caught_does E0 HN0.out HO.out HBW.out⟩
 · simp only at h0
   have HM2 := hyd hm2; have HE2 := hyd he2; have HBW := hyd hbw2
   have HN0 := hyd h0
   clear hm2 he2 hg2 hbw2 hb2 h0
   refine leaves_cons (f := 95) (args := #[.pointer (some ⟨w.heap.size, 0, none⟩), .pointer (some ⟨w.heap.size + 1, 0, none⟩)]) (by simp) (by simp [go_sem]) ?_
   refine (catch_pan w.heap.size (w.heap.size + 1) er Mv.zero 0 [] w2 HM2.out HE2.out (by omega)).mono ?_
   rintro e u' w'' ⟨rfl, rfl, E0⟩
   exact ⟨_, results_does rfl _ _ _ _ _ _ _ _ rfl E0.m rfl (load_errno _ _ _ E0.e) Tryz.underlying33 rfl (by kernel_rfl), caught_does E0 HN0.out HO.out HBW.out⟩
theorem does4_any (K : Nat) (c1 c2 c3 c4 : Value) (g B : Nat) (S : Ac) (r : Ac × Mv × Int) (w : World) (h : OwnAt w B g S) (hS : S.small)
  (hcf : ∀ (u : Value) (wx : World), (callFunc K #[u, c1, c2, c3, c4]).run Tryz.prog wx = .ok (.enter K #[u, c1, c2, c3, c4]) wx)
  (hK : ∀ (gb : Nat) (wx : World), Below w.heap.size w wx → w.heap.size + 2 ≤ wx.heap.size → OwnAt wx (w.heap.size + 2) gb S → Calls Tryz.prog K #[.pointer (some ⟨gb, 0, none⟩), c1, c2, c3, c4] wx (StepOf wx (w.heap.size + 2) gb r)) :
  Calls Tryz.prog 37 #[.pointer (some ⟨g, 0, none⟩), .func (.func K) #[] #[c1, c2, c3, c4]] w (DoesOf w g S r) := by
 have hmf : ∀ (fn : Fn) (first cap : Array Value) (w : World), (Instr.makeFunc fn first cap).run Tryz.prog w = .ok (.func fn first cap) w := fun _ _ _ _ => rfl
 have hbb : Below w.heap.size w ((w.alloc (.cells #[.int .i64 0, .int .i64 0, .int .i64 0, .int .i64 0, .int .i64 0, .int .i64 0] 33)).alloc (.cells #[.int .i64 0] 28)) := ((Below.refl _ _).alloc (Nat.le_refl _) _).alloc (by simp) _
 have HC := hyd (copied_any g B S ((w.alloc (.cells #[.int .i64 0, .int .i64 0, .int .i64 0, .int .i64 0, .int .i64 0, .int .i64 0] 33)).alloc (.cells #[.int .i64 0] 28)) (h.below hbb) hS.1 hS.2.1 hS.2.2)
 have HO := hyd h; have HBB := hyd hbb
 have hm0 : ((w.alloc (.cells #[.int .i64 0, .int .i64 0, .int .i64 0, .int .i64 0, .int .i64 0, .int .i64 0] 33)).alloc (.cells #[.int .i64 0] 28)).heap[w.heap.size]? = some (.cells #[.int .i64 0, .int .i64 0, .int .i64 0, .int .i64 0, .int .i64 0, .int .i64 0] 33 (0, 0)) := blk_alloc (blk_new w _ rfl) _
 have he0 : ((w.alloc (.cells #[.int .i64 0, .int .i64 0, .int .i64 0, .int .i64 0, .int .i64 0, .int .i64 0] 33)).alloc (.cells #[.int .i64 0] 28)).heap[w.heap.size + 1]? = some (.cells #[.int .i64 0] 28 (0, 0)) := blk_new _ _ (by simp)
 obtain ⟨vp0, vq0, qs0, h0⟩ := h
 have HG0 := hyd h0.hg
 have hgl := blk_lt h0.hg
 have z0 : ((w.alloc (.cells #[.int .i64 0, .int .i64 0, .int .i64 0, .int .i64 0, .int .i64 0, .int .i64 0] 33)).alloc (.cells #[.int .i64 0] 28)).heap.size = w.heap.size + 2 := by simp
 have HM0 := hyd hm0; have HE0 := hyd he0; have HZ0 := hyd z0; have HKK := hyd hK
 have n1 : g ≠ w.heap.size := by omega
 have n2 : g ≠ w.heap.size + 1 := by omega
 have n3 : g ≠ w.heap.size + 1 + 1 := by omega
 have n1' : w.heap.size ≠ g := by omega
 have n2' : w.heap.size + 1 ≠ g := by omega
 have n3' : w.heap.size + 1 + 1 ≠ g := by omega
 clear h0 hm0 he0 hbb z0 hK
 go_enter_defers Tryz.func37, Tryz.ntmps37
 go_wp2_with fail
 refine HC.out.mono ?_; rintro e w1 ⟨rfl, ho1, hb1⟩
 have hbw1 : Below w.heap.size w w1 := HBB.out.trans (hb1.mono (by have := HZ0.out; omega))
 have HO1 : Hid (OwnAt w1 (w.heap.size + 2) (w.heap.size + 2) S) := hyd (by rw [HZ0.out] at ho1; exact ho1)
 have HB1 := hyd hbw1
 have HM1 := hyd (blk_below HM0.out hb1 (by have := HZ0.out; omega))
 have HE1 := hyd (blk_below HE0.out hb1 (by have := HZ0.out; omega))
 have hz1 : w.heap.size + 2 ≤ w1.heap.size := by have := HZ0.out; have := hb1.size; omega
 clear ho1 hb1 hbw1
 go_wp2_with fail
 refine (HKK.out (w.heap.size + 2) w1 HB1.out hz1 HO1.out).mono ?_
 rintro e w2 ⟨hb2, hh⟩
 have hm2 := blk_below HM1.out hb2 (by omega)
 have he2 := blk_below HE1.out hb2 (by omega)
 have hg2 := blk_below (blk_below HG0.out HB1.out hgl) hb2 (by omega)
 have hbw2 : Below w.heap.size w w2 := HB1.out.trans (hb2.mono (by omega))
 have hz2 : w.heap.size + 2 ≤ w2.heap.size := Nat.le_trans hz1 hb2.size
 obtain ⟨S', m, er⟩ := r
 rcases hh with ⟨h0, rfl, ho2⟩ | ⟨h0, rfl | rfl⟩
 · simp only at h0 ho2
   subst h0
   obtain ⟨vp, vq, qs, ho2⟩ := ho2
   obtain ⟨Ap, kp, rfl, _⟩ := ho2.rdp
   obtain ⟨Aq, kq, rfl, _⟩ := ho2.rdq
   obtain ⟨m0, m1, m2, m3, m4, m5, m6⟩ := cells6U hm2
   have e0 : w2.cell? ⟨w.heap.size + 1, 0, none⟩ = some (.int .i64 0) := (blk_cell he2 0).trans rfl
   have e1 : w2.frozen? ⟨w.heap.size + 1, 0, none⟩ = false := blk_free he2 0
   obtain ⟨g0, g1, g2, g3, g4, g5⟩ := cells5U hg2
   obtain ⟨b0, b1, b2, b3, b4, b5⟩ := cells5U ho2.hg
   have hm2l := blk_lt hm2; have he2l := blk_lt he2; have hg2l := blk_lt hg2
   have HM2 := hyd hm2; have HE2 := hyd he2; have HG2 := hyd hg2; have HO2 := hyd ho2; have HBW := hyd hbw2
   clear hm2 he2 hg2 ho2 hbw2 hb2
   go_wp2_with fail
   go_region_with (fail)
   all_goals go_wp2_with fail
   all_goals
    obtain ⟨E1, E2, E3⟩ := done_end (S := S) (m := m) HM2.out HE2.out HG2.out hgl HO2.out HBW.out
    refine leaves_cons (f := 95) (args := #[.pointer (some ⟨w.heap.size, 0, none⟩), .pointer (some ⟨w.heap.size + 1, 0, none⟩)]) (by simp) (by simp [go_sem]) ?_
    refine (catch_idle w.heap.size (w.heap.size + 1) _).mono ?_
    rintro e u' w'' ⟨rfl, rfl, rfl⟩
    exact ⟨_, results_does rfl _ _ _ _ _ _ _ _ rfl E1 rfl (load_errno _ _ _ E2) Tryz.underlying33 rfl (by kernel_rfl), E3⟩
 · simp only at h0
   obtain ⟨m0, m1, m2, m3, m4, m5, m6⟩ := cells6U hm2
   have e0 : w2.cell? ⟨w.heap.size + 1, 0, none⟩ = some (.int .i64 0) := (blk_cell he2 0).trans rfl
   have e1 : w2.frozen? ⟨w.heap.size + 1, 0, none⟩ = false := blk_free he2 0
   have hm2l := blk_lt hm2; have he2l := blk_lt he2
   have HM2 := hyd hm2; have HE2 := hyd he2; have HBW := hyd hbw2
   have hne0 : (er == 0) = false := by simpa using h0
   have HN0 := hyd h0
   clear hm2 he2 hg2 hbw2 hb2 h0
   go_wp2_with fail
   refine Code.wp_mono (noPan_le _) ?_
   go_region_law (fail)
   all_goals (simp only [noPan])
   all_goals go_wp2_with fail
   all_goals
    have E0 := (failW_caught (e := er) HM2.out HE2.out (by omega)).drew
    refine leaves_cons (f := 95) (args := #[.pointer (some ⟨w.heap.size, 0, none⟩), .pointer (some ⟨w.heap.size + 1, 0, none⟩)]) (by simp) (by simp [go_sem]) ?_
    refine (catch_idle w.heap.size (w.heap.size + 1) _).mono ?_
    rintro e u' w'' ⟨rfl, rfl, rfl⟩
    exact ⟨_, results_does rfl _ _ _ _ _ _ _ _ rfl E0.m rfl (load_errno _ _ _ E0.e) Tryz.underlying33 rfl (by kernel_rfl), caught_does E0 HN0.out HO.out HBW.out⟩
 · simp only at h0
   have HM2 := hyd hm2; have HE2 := hyd he2; have HBW := hyd hbw2
   have HN0 := hyd h0
   clear hm2 he2 hg2 hbw2 hb2 h0
   refine leaves_cons (f := 95) (args := #[.pointer (some ⟨w.heap.size, 0, none⟩), .pointer (some ⟨w.heap.size + 1, 0, none⟩)]) (by simp) (by simp [go_sem]) ?_
   refine (catch_pan w.heap.size (w.heap.size + 1) er Mv.zero 0 [] w2 HM2.out HE2.out (by omega)).mono ?_
   rintro e u' w'' ⟨rfl, rfl, E0⟩
   exact ⟨_, results_does rfl _ _ _ _ _ _ _ _ rfl E0.m rfl (load_errno _ _ _ E0.e) Tryz.underlying33 rfl (by kernel_rfl), caught_does E0 HN0.out HO.out HBW.out⟩
theorem OwnV.put {w w' : World} {B g : Nat} {S : Ac} {vp vq : Value} {qs : List PmE} {us : List (Nat × Value)} (h : OwnV w B g S vp vq qs) (hp : Puts w g us w') :
  w'.heap[g]? = some (.cells (us.foldl (fun a u => a.setIfInBounds u.1 u.2) #[.int .i64 S.day, .int .i64 S.bp, .int .i64 S.cr, vp, vq]) 83 (0, 0)) ∧ w'.ownsRow B 92 11 vp S.ps.length (perCs S.ps) ∧ w'.ownsRow B 110 6 vq S.ms.length (pmCs qs) ∧ ∀ q ∈ qs, PartsAt w' q.v q.p.parts := by
 refine ⟨hp.near _ _ _ h.hg, own_apart h.hp hp (fun e => ?_), own_apart h.hq hp (fun e => ?_), fun q hq => (h.parts q hq).puts3 hp h.hg (by decide)⟩
 · obtain ⟨_, cs, hcs⟩ := own_block_type h.hp e; exact ne_of_type' h.hg hcs (by decide) rfl
 · obtain ⟨_, cs, hcs⟩ := own_block_type h.hq e; exact ne_of_type' h.hg hcs (by decide) rfl
theorem OwnV.setCr {w w' : World} {B g : Nat} {S : Ac} {vp vq : Value} {qs : List PmE} {cr : Int} (h : OwnV w B g S vp vq qs) (hp : Puts w g [(2, .int .i64 cr)] w') : OwnV w' B g { S with cr := cr } vp vq qs := by
 obtain ⟨h1, h2, h3, h4⟩ := h.put hp
 exact ⟨h1, h.hB, h2, h3, h.hm, h4⟩
theorem OwnV.setDay {w w' : World} {B g : Nat} {S : Ac} {vp vq : Value} {qs : List PmE} {d : Int} (h : OwnV w B g S vp vq qs) (hp : Puts w g [(0, .int .i64 d)] w') : OwnV w' B g { S with day := d } vp vq qs := by
 obtain ⟨h1, h2, h3, h4⟩ := h.put hp
 exact ⟨h1, h.hB, h2, h3, h.hm, h4⟩
theorem OwnV.far {w w' : World} {B g gm : Nat} {S : Ac} {vp vq : Value} {qs : List PmE} {us : List (Nat × Value)} {cs : Array Value} {t : Nat} {fr : Nat × Nat} (h : OwnV w B g S vp vq qs) (hp : Puts w gm us w') (hm : w.heap[gm]? = some (.cells cs t fr))
  (h1 : t ≠ 83) (h2 : t ≠ 92) (h3 : t ≠ 110) (h4 : t ≠ 58) : OwnV w' B g S vp vq qs := by
 refine ⟨(hp.far g (blk_lt h.hg) (ne_of_type' h.hg hm (Ne.symm h1))).trans h.hg, h.hB, own_apart h.hp hp (fun e => ?_), own_apart h.hq hp (fun e => ?_), h.hm, fun q hq => (h.parts q hq).puts3 hp hm h4⟩
 · obtain ⟨_, cs, hcs⟩ := own_block_type h.hp e; exact ne_of_type' hm hcs h2 rfl
 · obtain ⟨_, cs, hcs⟩ := own_block_type h.hq e; exact ne_of_type' hm hcs h3 rfl
theorem puts6 (w : World) (g : Nat) (m : Mv) : Puts w g [(0, .int .i64 m.c0), (1, .int .i64 m.c1), (2, .int .i64 m.c2), (3, .int .i64 m.paid), (4, .int .i64 m.cr), (5, .int .i64 m.cash)] (put6 w g m) :=
 ((((((Puts.start (Below.refl _ _)).set 0 _).set 1 _).set 2 _).set 3 _).set 4 _).set 5 _
theorem OwnAt.moved {w : World} {B g gm : Nat} {S : Ac} {x0 x1 x2 x3 x4 x5 : Value} (h : OwnAt w B g S) (hm : w.heap[gm]? = some (.cells #[x0, x1, x2, x3, x4, x5] 33 (0, 0))) (m : Mv) : OwnAt (put6 w gm m) B g S := by
 obtain ⟨vp, vq, qs, h⟩ := h
 have e := puts6 w gm m
 generalize put6 w gm m = W at *
 exact ⟨vp, vq, qs, h.far e hm (by decide) (by decide) (by decide) (by decide)⟩
theorem DoesOf.form {w w' : World} {g : Nat} {S : Ac} {r : Ac × Mv × Int} {e : Ending} (h : DoesOf w g S r e w') : ∃ m er, e = .returned (mvR m er) := by
 rcases h.2 with ⟨_, e, _⟩ | ⟨_, e, _⟩
 · exact ⟨_, _, e⟩
 · exact ⟨_, _, e⟩
theorem DoesOf.wrap {w w0 w1 : World} {g gm : Nat} {S : Ac} {r : Ac × Mv × Int} {m : Mv} {er : Int} {x0 x1 x2 x3 x4 x5 : Value} (hb : Below w.heap.size w w0) (h : DoesOf w0 g S r (.returned (mvR m er)) w1) (hm : w1.heap[gm]? = some (.cells #[x0, x1, x2, x3, x4, x5] 33 (0, 0)))
  (hgm : w.heap.size ≤ gm) : DoesOf w g S r (.returned (mvR m er)) (put6 w1 gm m) := by
 have P := puts6 w1 gm m
 have hfar : ∀ k, k ≠ gm → (put6 w1 gm m).heap[k]? = w1.heap[k]? := fun k hk => put6_far w1 gm m hk
 have hmv : ∀ {B : Nat} {S : Ac}, OwnAt w1 B g S → OwnAt (put6 w1 gm m) B g S := fun h => h.moved hm m
 generalize put6 w1 gm m = W at *
 refine ⟨⟨P.os.trans (h.1.os.trans hb.os), P.tape.trans (h.1.tape.trans hb.tape), P.output.trans (h.1.output.trans hb.output), Nat.le_trans hb.size (Nat.le_trans h.1.size P.size), fun k hk hne => ?_⟩, ?_⟩
 · have hkg : k ≠ gm := by omega
   exact (hfar k hkg).trans ((h.1.block k (Nat.lt_of_lt_of_le hk hb.size) hne).trans (hb.block k hk))
 · rcases h.2 with ⟨h0, e, ho⟩ | ⟨h0, e, ho⟩
   · exact .inl ⟨h0, e, hmv ho⟩
   · exact .inr ⟨h0, e, hmv ho⟩
theorem does_err {w w' : World} {g B : Nat} {S S' : Ac} {m : Mv} {er : Int} (hb : Below w.heap.size w w') (h : OwnAt w B g S) (he : er ≠ 0) : DoesOf w g S (S', m, er) (.returned (mvR Mv.zero er)) w' :=
 ⟨⟨hb.os, hb.tape, hb.output, hb.size, fun k hk _ => hb.block k hk⟩, .inr ⟨he, rfl, (h.below hb).mono (Nat.zero_le _)⟩⟩
theorem move_keeps {w0 w1 : World} {g gm : Nat} {S : Ac} {r : Ac × Mv × Int} {e : Ending} {o : Obj} (h : DoesOf w0 g S r e w1) (hm : w0.heap[gm]? = some o) (hne : gm ≠ g) : w1.heap[gm]? = some o :=
 (h.1.block gm (blk_lt hm) (fun e => hne (by have := Option.some.inj e; omega))).trans hm
theorem step_end {w w1 : World} {B gb gm : Nat} {r : Ac × Mv × Int} {x0 x1 x2 x3 x4 x5 : Value} (hb : Below B w w1) (ho : OwnAt w1 B gb r.1) (hm : w1.heap[gm]? = some (.cells #[x0, x1, x2, x3, x4, x5] 33 (0, 0))) (hgm : B ≤ gm) (h0 : r.2.2 = 0) : StepOf w B gb r (.returned (mvR r.2.1 0)) (put6 w1 gm r.2.1) :=
 ⟨(((((hb.setCell hgm _).setCell hgm _).setCell hgm _).setCell hgm _).setCell hgm _).setCell hgm _, .inl ⟨h0, rfl, ho.moved hm _⟩⟩
theorem StepOf.drew {w w1 : World} {B gb : Nat} {r : Ac × Mv × Int} {e : Ending} (h : StepOf w B gb r e w1) : StepOf w B gb r e w1.drew :=
 ⟨h.1.drew, h.2.imp (fun ⟨a, b, c⟩ => ⟨a, b, c.below (Below.refl _ _).drew⟩) id⟩
theorem step_last {w X : World} {B gb gm : Nat} (S' : Ac) (m : Mv) {x0 x1 x2 x3 x4 x5 : Value} (hb : Below B w X) (ho : OwnAt X B gb S') (hm : X.heap[gm]? = some (.cells #[x0, x1, x2, x3, x4, x5] 33 (0, 0))) (hgm : B ≤ gm) :
  (put6 X gm m).drew.heap[gm]? = some (.cells #[.int .i64 m.c0, .int .i64 m.c1, .int .i64 m.c2, .int .i64 m.paid, .int .i64 m.cr, .int .i64 m.cash] 33 (0, 0)) ∧ StepOf w B gb (S', m, 0) (.returned (mvR m 0)) (put6 X gm m).drew :=
 by
  have e1 := put6_at hm m
  have e2 := step_end (r := (S', m, 0)) hb ho hm hgm rfl
  have e3 : StepOf w B gb (S', m, 0) (.returned (mvR m 0)) (put6 X gm m) := e2
  generalize put6 X gm m = W at *
  exact ⟨e1, e3.drew⟩
theorem mv_ret {fn : Func} {p q : Tmp} (m : Mv) (er : Int) (g : Nat) (h : fn.results = #[.cell p 33, .tmp q]) {tmps : Array Value} {w : World} {Q : Ending → World → Prop} (hp : tmps.getD p undef = .pointer (some ⟨g, 0, none⟩)) (hq : tmps.getD q undef = .int .i64 er)
  (hg : w.heap[g]? = some (.cells #[.int .i64 m.c0, .int .i64 m.c1, .int .i64 m.c2, .int .i64 m.paid, .int .i64 m.cr, .int .i64 m.cash] 33 (0, 0))) (hQ : Q (.returned (mvR m er)) w) : bodyPost Tryz.prog fn Q .ret { tmps := tmps, defers := [] } w := by
 refine bodyPost_ret (results_row_tmpB h tmps w g 33 _ (0, 0) _ hp hg Tryz.underlying33 rfl (by kernel_rfl)) rfl ?_
 rw [hq]; exact hQ
theorem DoesOf.drew {w w1 : World} {g : Nat} {S : Ac} {r : Ac × Mv × Int} {e : Ending} (h : DoesOf w g S r e w1) : DoesOf w g S r e w1.drew :=
 ⟨⟨h.1.os, h.1.tape, h.1.output, h.1.size, h.1.block⟩, h.2.imp (fun ⟨a, b, c⟩ => ⟨a, b, c.below (Below.refl _ _).drew⟩) (fun ⟨a, b, c⟩ => ⟨a, b, c.below (Below.refl _ _).drew⟩)⟩
def refundS (S : Ac) (a : Int) : Ac × Mv × Int := if ¬ (1 ≤ a ∧ a ≤ 1125899906842624) then (S, Mv.zero, 1) else if S.cr < a then (S, Mv.zero, 2) else ({ S with cr := S.cr - a }, ⟨0, 0, 0, 0, -a, -a⟩, 0)
def offset1 (S : Ac) (a : Int) : Ac × Mv × Int := match giveS S.day (-1) S.ps (partsOf (itemsOf S.ps) a) with
 | some ps => ({ S with ps := ps, cr := S.cr - (a - leftI (itemsOf S.ps) a) }, ⟨0, 0, 0, a - leftI (itemsOf S.ps) a, leftI (itemsOf S.ps) a - a, 0⟩, 0)
 | none => (S, Mv.zero, 2)
def offsetS (S : Ac) (a : Int) : Ac × Mv × Int := if ¬ (1 ≤ a ∧ a ≤ 1125899906842624) then (S, Mv.zero, 1) else if S.cr < a then (S, Mv.zero, 2) else offset1 S a
def pay1 (S : Ac) (id a : Int) : Ac × Mv × Int := match giveS S.day (-1) S.ps (partsOf (itemsOf S.ps) a) with
 | some ps => if (addS S.cr (leftI (itemsOf S.ps) a)).2 = 0 then ({ S with ps := ps, cr := (addS S.cr (leftI (itemsOf S.ps) a)).1, ms := S.ms ++ [⟨id, S.day, a, partsOf (itemsOf S.ps) a, leftI (itemsOf S.ps) a, false⟩] }, ⟨0, 0, 0, a - leftI (itemsOf S.ps) a, leftI (itemsOf S.ps) a, a⟩, 0) else (S, Mv.zero, 2)
 | none => (S, Mv.zero, 2)
def payS (S : Ac) (id a : Int) : Ac × Mv × Int := if ¬ ((1 ≤ id ∧ id ≤ 1099511627776) ∧ 1 ≤ a ∧ a ≤ 1125899906842624) then (S, Mv.zero, 1) else if 0 ≤ S.pay id then (S, Mv.zero, 5) else if 50 ≤ S.ms.length then (S, Mv.zero, 2) else pay1 S id a
structure PmOk (ps : List Per) (m : Pm) : Prop where
 id : 1 ≤ m.id ∧ m.id ≤ 1099511627776
 day : 0 ≤ m.day ∧ m.day ≤ 3652058
 amt : 1 ≤ m.amt ∧ m.amt ≤ 1125899906842624
 placed : ∀ x ∈ m.parts, Placed ps x ∧ (∃ p ∈ ps, p.ret.per = x.per ∧ p.ret.due = x.due) ∧ 1 ≤ x.opn ∧ x.opn ≤ 4611686018427387904
 len : m.parts.length ≤ 60
 rest : 0 ≤ m.rest
 sum : opens m.parts + m.rest = m.amt
structure Good (S : Ac) : Prop where
 day : 0 ≤ S.day ∧ S.day ≤ 3652058
 bp : 0 ≤ S.bp ∧ S.bp ≤ 100000
 cr : 0 ≤ S.cr ∧ S.cr ≤ 4611686018427387904
 np : S.ps.length ≤ 20
 nm : S.ms.length ≤ 50
 rise : RiseP S.ps
 per : ∀ p ∈ S.ps, PerOk S.day S.bp p
 pm : ∀ m ∈ S.ms, PmOk S.ps m
 ids : (S.ms.map Pm.id).Nodup
theorem Good.small {S : Ac} (h : Good S) : S.small := ⟨by have := h.nm; omega, by have := h.np; omega, fun p hp => by have := (h.pm p hp).len; omega⟩
theorem Good.places {S : Ac} (h : Good S) : placesE (itemsOf S.ps) = 0 := items_ok h.rise h.per (by have := h.np; omega)
def perRC (bp : Int) (p : Per) : List Value := [.int .i64 p.ret.per, .int .i64 p.ret.due, .int .i64 p.ret.filed, .int .i64 p.ret.inc, .int .i64 p.ret.wh, .int .i64 p.o0, .int .i64 p.o1, .int .i64 p.o2, .int .i64 p.o2, .int .i64 bp, .int .i64 p.since, .int .i64 p.done, .int .i64 p.acc]
theorem perRC_len (bp : Int) (p : Per) : (perRC bp p).length = 13 := rfl
def perRCs (bp : Int) (ps : List Per) : List Value := ps.flatMap (perRC bp)
theorem perRCs_len (bp : Int) (ps : List Per) : (perRCs bp ps).length = ps.length * 13 := flat_len (perRC_len bp) ps
theorem perRCs_at {bp : Int} {ps : List Per} {i j : Nat} (h : i < ps.length) (hj : j < 13) : (perRCs bp ps)[i * 13 + j]? = (perRC bp ps[i])[j]? := flat_at (perRC_len bp) h hj
theorem perRCs_app (bp : Int) (a b : List Per) : perRCs bp (a ++ b) = perRCs bp a ++ perRCs bp b := by simp [perRCs]
structure RefV (w : World) (B g : Nat) (S : Ac) (vp vq : Value) (qs : List PmE) : Prop where
 hg : w.heap[g]? = some (.cells #[.int .i64 S.day, .int .i64 S.bp, .int .i64 S.cr, vp, vq] 123 (0, 0))
 hB : B ≤ g
 hp : w.ownsRow B 169 13 vp S.ps.length (perRCs S.bp S.ps)
 hq : w.ownsRow B 110 6 vq S.ms.length (pmCs qs)
 hm : qs.map PmE.p = S.ms
 parts : ∀ q ∈ qs, PartsAt w q.v q.p.parts
def RefAt (w : World) (B g : Nat) (S : Ac) : Prop := ∃ vp vq qs, RefV w B g S vp vq qs
theorem RefV.below {w w' : World} {B g : Nat} {S : Ac} {vp vq : Value} {qs : List PmE} (h : RefV w B g S vp vq qs) (hb : Below w.heap.size w w') : RefV w' B g S vp vq qs :=
 ⟨blk_below h.hg hb (blk_lt h.hg), h.hB, own_below h.hp hb, own_below h.hq hb, h.hm, fun q hq => (h.parts q hq).below hb⟩
theorem RefV.mono {w : World} {B B' g : Nat} {S : Ac} {vp vq : Value} {qs : List PmE} (h : RefV w B g S vp vq qs) (hB : B' ≤ B) : RefV w B' g S vp vq qs :=
 ⟨h.hg, Nat.le_trans hB h.hB, own_mono h.hp hB, own_mono h.hq hB, h.hm, h.parts⟩
theorem RefAt.below {w w' : World} {B g : Nat} {S : Ac} (h : RefAt w B g S) (hb : Below w.heap.size w w') : RefAt w' B g S := let ⟨vp, vq, qs, h⟩ := h; ⟨vp, vq, qs, h.below hb⟩
theorem RefAt.mono {w : World} {B B' g : Nat} {S : Ac} (h : RefAt w B g S) (hB : B' ≤ B) : RefAt w B' g S := let ⟨vp, vq, qs, h⟩ := h; ⟨vp, vq, qs, h.mono hB⟩
theorem RefV.len {w : World} {B g : Nat} {S : Ac} {vp vq : Value} {qs : List PmE} (h : RefV w B g S vp vq qs) : qs.length = S.ms.length := by rw [← h.hm, List.length_map]
theorem RefV.rdp {w : World} {B g : Nat} {S : Ac} {vp vq : Value} {qs : List PmE} (h : RefV w B g S vp vq qs) : ∃ A c, vp = .slice A S.ps.length c ∧ S.ps.length ≤ c ∧ Rd w w.heap.size 13 A S.ps.length (perRCs S.bp S.ps) := by
 obtain ⟨A, c, rfl, _⟩ := own_form h.hp
 refine ⟨A, c, rfl, ?_, Rd.of_own h.hp⟩
 rcases h.hp.2 with ⟨h1, h2⟩ | ⟨g, cap, cur, h1, _, _, h4, _⟩
 · omega
 · injection h1 with _ _ h1; omega
structure PerR (w : World) (b off : Nat) (bp : Int) (p : Per) : Prop where
 c : ∀ j, j < 13 → w.cell? ⟨b, off + j, none⟩ = (perRC bp p)[j]?
 f : ∀ j, j < 13 → w.frozen? ⟨b, off + j, none⟩ = false
 lt : b < w.heap.size
theorem RefV.per {w : World} {B g : Nat} {S : Ac} {vp vq : Value} {qs : List PmE} (h : RefV w B g S vp vq qs) {i : Nat} (hi : i < S.ps.length) : ∃ gp cap, vp = .slice (some ⟨gp, 0, none⟩) S.ps.length cap ∧ S.ps.length ≤ cap ∧ B ≤ gp ∧ PerR w gp (i * 13) S.bp S.ps[i] := by
 obtain ⟨gp, cap, rfl, hb, hlt⟩ := h.hp.form (by omega)
 have key : ∀ j, j < 13 → ∃ u, (perRC S.bp S.ps[i])[j]? = some u ∧ w.cell? ⟨gp, i * 13 + j, none⟩ = some u ∧ w.frozen? ⟨gp, i * 13 + j, none⟩ = false := fun j hj => by
  have e := perRCs_at (bp := S.bp) hi hj
  have e2 : (perRC S.bp S.ps[i])[j]? = some ((perRC S.bp S.ps[i])[j]'hj) := List.getElem?_eq_getElem hj
  exact ⟨_, e2, own_cell h.hp (e.trans e2)⟩
 have hcap : S.ps.length ≤ cap := by
  rcases h.hp.2 with ⟨h1, h2⟩ | ⟨g, cap', cur, h1, _, _, h4, _⟩
  · cases h1
  · injection h1 with _ _ h1; omega
 refine ⟨gp, cap, rfl, hcap, hb, ⟨fun j hj => ?_, fun j hj => ?_, hlt⟩⟩
 · obtain ⟨u, e1, e2, _⟩ := key j hj
   rw [e1, e2]
 · obtain ⟨u, e1, e2, e3⟩ := key j hj
   exact e3
theorem place_cases (S : Ac) (n : Int) : (S.place n = -1 ∧ ∀ i (hi : i < S.ps.length), S.ps[i].ret.per ≠ n) ∨ ∃ i, ∃ hi : i < S.ps.length, S.place n = (i : Int) ∧ S.ps[i].ret.per = n ∧ ∀ k (hk : k < i), (S.ps[k]'(by omega)).ret.per ≠ n := by
 unfold Ac.place
 rcases idxI_spec (fun p : Per => decide (p.ret.per = n)) S.ps 0 with ⟨h1, h2⟩ | ⟨i, hi, h1, h2, h3⟩
 · exact .inl ⟨h1, fun i hi => by simpa using h2 _ (List.getElem_mem hi)⟩
 · exact .inr ⟨i, hi, by rw [h1]; simp, by simpa using h2, fun k hk => by simpa using h3 k hk⟩
theorem PerR.per0 {w : World} {b off : Nat} {bp : Int} {p : Per} (h : PerR w b off bp p) : w.cell? ⟨b, off, none⟩ = some (.int .i64 p.ret.per) := h.c 0 (by omega)
theorem rplace_any (g B : Nat) (S : Ac) (n : Int) (w : World) (h : RefAt w B g S) (hN : S.ps.length ≤ 1000) :
  Calls Tryz.prog 119 #[.pointer (some ⟨g, 0, none⟩), .int .i64 n] w fun e w' => e = .returned (.int .i64 (S.place n)) ∧ w = w' := by
 obtain ⟨vp, vq, qs, h⟩ := h
 obtain ⟨A, c, rfl, hc, _⟩ := h.rdp
 obtain ⟨a0, a1, a2, a3, a4, a5⟩ := cells5U h.hg
 have hgl := blk_lt h.hg
 have hpc := place_cases S n
 have HPE := hyd (fun i (hi : i < S.ps.length) => h.per hi)
 have HPC := hyd hpc
 obtain ⟨np, hnp⟩ : ∃ np, S.ps.length = np := ⟨_, rfl⟩
 have HNP := hyd hnp
 have a3' : w.cell? ⟨g, 3, none⟩ = some (.slice A np c) := by rw [← hnp]; exact a3
 have hN' : np ≤ 1000 := by omega
 clear h hc hpc a3 hN hnp
 rcases HPC.out with ⟨h1, h2⟩ | ⟨i, hi, h1, h2, h3⟩
 · rw [h1]
   have H2 := hyd h2
   clear h1 h2
   go_enter Tryz.func119, Tryz.ntmps119
   go_wp2_with fail
   go_loopg [5] np (fun gh v5 wr => ∃ k : Nat, gh = np - k ∧ k ≤ np ∧ v5 = .int .i64 k ∧ w = wr)
   case atStart => exact ⟨0, rfl, by omega, rfl, rfl⟩
   case round =>
    obtain ⟨k, hgk, hk, rfl, rfl⟩ := hrel
    have HGK := hyd hgk
    by_cases hlt : k < np
    · have hkl : k < S.ps.length := by have := HNP.out; omega
      obtain ⟨gp, cap, e1, _, _, hpr⟩ := HPE.out k hkl
      injection e1 with e1 _ _; subst e1
      have c0 := hpr.per0
      have hne : (S.ps[k].ret.per == n) = false := by simpa using H2.out k hkl
      generalize S.ps[k].ret.per = x at *
      have i1 : (0 : Int) ≤ (k : Int) := by omega
      have i2 : (k : Int) < (np : Int) := by omega
      clear hgk hpr hkl
      go_wp2_with fail
      go_roundg (np - (k + 1))
      case measure => have := HGK.out; omega
      case rel => exact ⟨k + 1, rfl, by omega, by go_num, rfl⟩
    · clear hgk
      go_wp2_with fail
      go_ret
      exact ⟨rfl, rfl⟩
 · rw [h1]
   have H2 := hyd h2; have H3 := hyd h3
   have hin : i < np := by have := HNP.out; omega
   clear h1 h2 h3
   go_enter Tryz.func119, Tryz.ntmps119
   go_wp2_with fail
   go_loopg [5] np (fun gh v5 wr => ∃ k : Nat, gh = np - k ∧ k ≤ i ∧ v5 = .int .i64 k ∧ w = wr)
   case atStart => exact ⟨0, rfl, by omega, rfl, rfl⟩
   case round =>
    obtain ⟨k, hgk, hk, rfl, rfl⟩ := hrel
    have HGK := hyd hgk
    have hkl : k < S.ps.length := by omega
    obtain ⟨gp, cap, e1, _, _, hpr⟩ := HPE.out k hkl
    injection e1 with e1 _ _; subst e1
    have c0 := hpr.per0
    have i1 : (0 : Int) ≤ (k : Int) := by omega
    have i2 : (k : Int) < (np : Int) := by omega
    by_cases hlt : k < i
    · have hne : (S.ps[k].ret.per == n) = false := by simpa using H3.out k hlt
      generalize S.ps[k].ret.per = x at *
      clear hgk hpr hkl
      go_wp2_with fail
      go_roundg (np - (k + 1))
      case measure => have := HGK.out; omega
      case rel => exact ⟨k + 1, rfl, by omega, by go_num, rfl⟩
    · have hki : k = i := by omega
      subst hki
      have hne : (S.ps[k].ret.per == n) = true := by simpa using H2.out
      generalize S.ps[k].ret.per = x at *
      clear hgk hpr hkl
      go_wp2_with fail
      go_ret
      exact ⟨rfl, rfl⟩
def setMany {α : Type} : List α → Nat → List α → List α
 | l, _, [] => l
 | l, a, u :: us => setMany (l.set a u) (a + 1) us
theorem setMany_is {α : Type} : ∀ (us : List α) (l : List α) (a : Nat), a + us.length ≤ l.length → setMany l a us = l.take a ++ us ++ l.drop (a + us.length)
 | [], l, a, h => by simp [setMany]
 | u :: us, l, a, h => by
   rw [setMany, setMany_is us (l.set a u) (a + 1) (by simp at h ⊢; omega)]
   have ha : a < l.length := by simp at h; omega
   have e1 : (l.set a u).take (a + 1) = l.take a ++ [u] := by
    rw [List.take_succ_eq_append_getElem (by simpa using ha), List.take_set_of_le (Nat.le_refl _)]
    simp
   have e2 : (l.set a u).drop (a + 1 + us.length) = l.drop (a + (u :: us).length) := by
    rw [List.drop_set_of_lt (by omega)]
    simp only [List.length_cons]
    congr 1; omega
   rw [e1, e2]; simp
theorem perRCs_put {bp : Int} {ps : List Per} {i : Nat} (h : i < ps.length) (p : Per) : setMany (perRCs bp ps) (i * 13) (perRC bp p) = perRCs bp (ps.set i p) := by
 have hl := perRCs_len bp ps
 rw [setMany_is _ _ _ (by rw [hl, perRC_len]; have : (i + 1) * 13 ≤ ps.length * 13 := Nat.mul_le_mul_right _ (by omega); omega), perRC_len]
 unfold perRCs
 have hs := flat_split (perRC bp) h
 have ht : ((ps.take i).flatMap (perRC bp)).length = i * 13 := by rw [flat_len (perRC_len bp), List.length_take]; congr 1; omega
 have e1 : (ps.flatMap (perRC bp)).take (i * 13) = (ps.take i).flatMap (perRC bp) := by rw [hs, ← ht, List.take_left]
 have e2 : (ps.flatMap (perRC bp)).drop (i * 13 + 13) = (ps.drop (i + 1)).flatMap (perRC bp) := by
  rw [hs, ← List.append_assoc, show i * 13 + 13 = ((ps.take i).flatMap (perRC bp) ++ perRC bp ps[i]).length by rw [List.length_append, ht, perRC_len], List.drop_left]
 rw [e1, e2, flat_split (perRC bp) (l := ps.set i p) (i := i) (by simpa using h)]
 simp [List.take_set_of_le, List.drop_set_of_lt]
def putMany (w : World) (b : Nat) : Nat → List Value → World
 | _, [] => w
 | o, u :: us => putMany (w.setCell ⟨b, o, none⟩ u) b (o + 1) us
theorem own_many {base g cap n s : Nat} {e : TypeId} : ∀ (us : List Value) (w : World) (xs : List Value) (a : Nat), w.ownsRow base e s (.slice (some ⟨g, 0, none⟩) n cap) n xs → a + us.length ≤ n * s → (putMany w g a us).ownsRow base e s (.slice (some ⟨g, 0, none⟩) n cap) n (setMany xs a us)
 | [], w, xs, a, h, _ => h
 | u :: us, w, xs, a, h, hl => own_many us _ _ (a + 1) (own_set h (by simp at hl; omega) u) (by simp at hl ⊢; omega)
theorem putMany_far (b : Nat) : ∀ (us : List Value) (w : World) (a k : Nat), k ≠ b → (putMany w b a us).heap[k]? = w.heap[k]?
 | [], _, _, _, _ => rfl
 | u :: us, w, a, k, h => (putMany_far b us _ (a + 1) k h).trans (Below.heap_setCell w ⟨b, a, none⟩ u k h)
theorem putMany_same (b : Nat) : ∀ (us : List Value) (w : World) (a : Nat), (putMany w b a us).os = w.os ∧ (putMany w b a us).tape = w.tape ∧ (putMany w b a us).output = w.output ∧ (putMany w b a us).heap.size = w.heap.size
 | [], _, _ => ⟨rfl, rfl, rfl, rfl⟩
 | u :: us, w, a => by
   obtain ⟨h1, h2, h3, h4⟩ := putMany_same b us (w.setCell ⟨b, a, none⟩ u) (a + 1)
   exact ⟨h1, h2, h3, h4.trans (by simp [World.setCell])⟩
theorem RefV.setPer {w : World} {B g gp cap : Nat} {S : Ac} {vq : Value} {qs : List PmE} (h : RefV w B g S (.slice (some ⟨gp, 0, none⟩) S.ps.length cap) vq qs) {i : Nat} (hi : i < S.ps.length) (p : Per) :
  RefV (putMany w gp (i * 13) (perRC S.bp p)) B g { S with ps := S.ps.set i p } (.slice (some ⟨gp, 0, none⟩) S.ps.length cap) vq qs := by
 obtain ⟨_, cs, hcs⟩ := own_block_type h.hp (b := gp) rfl
 have far := fun k (hk : k ≠ gp) => putMany_far gp (perRC S.bp p) w (i * 13) k hk
 refine ⟨(far g (ne_of_type' h.hg hcs (by decide))).trans h.hg, h.hB, ?_, own_keep h.hq fun b cs' hb => far b (ne_of_type' hb hcs (by decide)), h.hm, fun q hq => (h.parts q hq).keep fun b cs' hb => far b (ne_of_type' hb hcs (by decide))⟩
 have := own_many (perRC S.bp p) w (perRCs S.bp S.ps) (i * 13) h.hp (by rw [perRC_len]; have : (i + 1) * 13 ≤ S.ps.length * 13 := Nat.mul_le_mul_right _ (by omega); omega)
 rw [perRCs_put hi] at this
 have e : (S.ps.set i p).length = S.ps.length := by simp
 show (putMany w gp (i * 13) (perRC S.bp p)).ownsRow B 169 13 _ (S.ps.set i p).length (perRCs S.bp (S.ps.set i p))
 rw [e]; exact this
@[reducible] def perRO (bp : Int) (p : Per) : Obj := .cells #[.int .i64 p.ret.per, .int .i64 p.ret.due, .int .i64 p.ret.filed, .int .i64 p.ret.inc, .int .i64 p.ret.wh, .int .i64 p.o0, .int .i64 p.o1, .int .i64 p.o2, .int .i64 p.o2, .int .i64 bp, .int .i64 p.since, .int .i64 p.done, .int .i64 p.acc] 169
theorem PerR.all {w : World} {b off : Nat} {bp : Int} {p : Per} (h : PerR w b off bp p) :
  (w.cell? ⟨b, off, none⟩ = some (.int .i64 p.ret.per) ∧ w.cell? ⟨b, off + 1, none⟩ = some (.int .i64 p.ret.due) ∧ w.cell? ⟨b, off + 2, none⟩ = some (.int .i64 p.ret.filed) ∧ w.cell? ⟨b, off + 3, none⟩ = some (.int .i64 p.ret.inc) ∧ w.cell? ⟨b, off + 4, none⟩ = some (.int .i64 p.ret.wh) ∧
   w.cell? ⟨b, off + 5, none⟩ = some (.int .i64 p.o0) ∧ w.cell? ⟨b, off + 6, none⟩ = some (.int .i64 p.o1) ∧ w.cell? ⟨b, off + 7, none⟩ = some (.int .i64 p.o2)) ∧
  (w.cell? ⟨b, off + 8, none⟩ = some (.int .i64 p.o2) ∧ w.cell? ⟨b, off + 9, none⟩ = some (.int .i64 bp) ∧ w.cell? ⟨b, off + 10, none⟩ = some (.int .i64 p.since) ∧ w.cell? ⟨b, off + 11, none⟩ = some (.int .i64 p.done) ∧ w.cell? ⟨b, off + 12, none⟩ = some (.int .i64 p.acc)) :=
 ⟨⟨h.c 0 (by omega), h.c 1 (by omega), h.c 2 (by omega), h.c 3 (by omega), h.c 4 (by omega), h.c 5 (by omega), h.c 6 (by omega), h.c 7 (by omega)⟩, h.c 8 (by omega), h.c 9 (by omega), h.c 10 (by omega), h.c 11 (by omega), h.c 12 (by omega)⟩
theorem RefV.setFar {w : World} {B g gp gl cap : Nat} {S : Ac} {vq : Value} {qs : List PmE} {cs : Array Value} {fr : Nat × Nat} (h : RefV w B g S (.slice (some ⟨gp, 0, none⟩) S.ps.length cap) vq qs) (hne : gp ≠ gl) (hl : w.heap[gl]? = some (.cells cs 169 fr)) (j : Nat) (u : Value) :
  RefV (w.setCell ⟨gl, j, none⟩ u) B g S (.slice (some ⟨gp, 0, none⟩) S.ps.length cap) vq qs := by
 have far : ∀ k, k ≠ gl → (w.setCell ⟨gl, j, none⟩ u).heap[k]? = w.heap[k]? := fun k hk => Below.heap_setCell w ⟨gl, j, none⟩ u k hk
 refine ⟨(far g (ne_of_type' h.hg hl (by decide))).trans h.hg, h.hB, own_far h.hp (fun e => hne ?_) u, own_keep h.hq fun b cs' hb => far b (ne_of_type' hb hl (by decide)), h.hm, fun q hq => (h.parts q hq).keep fun b cs' hb => far b (ne_of_type' hb hl (by decide))⟩
 have e' : some gp = some gl := e
 exact Option.some.inj e'
@[reducible] def put13 (w : World) (b o : Nat) (bp : Int) (p : Per) : World := ((((((((((((w.setCell ⟨b, o, none⟩ (.int .i64 p.ret.per)).setCell ⟨b, o + 1, none⟩ (.int .i64 p.ret.due)).setCell ⟨b, o + 2, none⟩ (.int .i64 p.ret.filed)).setCell ⟨b, o + 3, none⟩ (.int .i64 p.ret.inc)).setCell ⟨b, o + 4, none⟩ (.int .i64 p.ret.wh)).setCell ⟨b, o + 5, none⟩ (.int .i64 p.o0)).setCell ⟨b, o + 6, none⟩ (.int .i64 p.o1)).setCell ⟨b, o + 7, none⟩ (.int .i64 p.o2)).setCell ⟨b, o + 8, none⟩ (.int .i64 p.o2)).setCell ⟨b, o + 9, none⟩ (.int .i64 bp)).setCell ⟨b, o + 10, none⟩ (.int .i64 p.since)).setCell ⟨b, o + 11, none⟩ (.int .i64 p.done)).setCell ⟨b, o + 12, none⟩ (.int .i64 p.acc)
theorem put13_eq (w : World) (b o : Nat) (bp : Int) (p : Per) : put13 w b o bp p = putMany w b o (perRC bp p) := by
 simp [put13, putMany, perRC, Nat.add_assoc]
theorem below_many {B b : Nat} {w0 : World} (hB : B ≤ b) : ∀ (us : List Value) (w : World) (a : Nat), Below B w0 w → Below B w0 (putMany w b a us)
 | [], _, _, h => h
 | u :: us, w, a, h => below_many hB us _ (a + 1) (h.setCell (p := ⟨b, a, none⟩) hB u)
end Go.Proofs.YtbjjgnaojoaoiaaGreat
