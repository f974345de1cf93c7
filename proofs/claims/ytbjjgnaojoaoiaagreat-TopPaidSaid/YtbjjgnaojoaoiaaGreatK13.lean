/- does. -/
import Derived.Test.YtbjjgnaojoaoiaaGreatK12
namespace Go.Proofs.YtbjjgnaojoaoiaaGreat
open Go.RowKit Go
set_option linter.unusedVariables false
set_option linter.unusedSimpArgs false

/-- A step on the copy. -/
def StepOf (w : World) (B gb : Nat) (r : Ac × Mv × Int) (e : Ending) (w' : World) : Prop := Below B w w' ∧
  ((r.2.2 = 0 ∧ e = .returned (mvR r.2.1 0) ∧ OwnAt w' B gb r.1) ∨ (r.2.2 ≠ 0 ∧ (e = .returned (mvR Mv.zero r.2.2) ∨ e = pan r.2.2)))
/-- What does leaves. -/
def DoesOf (w : World) (g : Nat) (S : Ac) (r : Ac × Mv × Int) (e : Ending) (w' : World) : Prop := w.grownBy w' (some g) ∧
  ((r.2.2 = 0 ∧ e = .returned (mvR r.2.1 0) ∧ OwnAt w' 0 g r.1) ∨ (r.2.2 ≠ 0 ∧ e = .returned (mvR Mv.zero r.2.2) ∧ OwnAt w' 0 g S))
/-- The account's size is small. -/
def Ac.small (S : Ac) : Prop := S.ms.length ≤ 1000 ∧ S.ps.length ≤ 1000 ∧ ∀ p ∈ S.ms, p.parts.length ≤ 1000
@[reducible] def put6 (w : World) (g : Nat) (m : Mv) : World := (((((w.setCell ⟨g, 0, none⟩ (.int .i64 m.c0)).setCell ⟨g, 1, none⟩ (.int .i64 m.c1)).setCell ⟨g, 2, none⟩ (.int .i64 m.c2)).setCell ⟨g, 3, none⟩ (.int .i64 m.paid)).setCell ⟨g, 4, none⟩ (.int .i64 m.cr)).setCell ⟨g, 5, none⟩ (.int .i64 m.cash)
@[reducible] def put5 (w : World) (g : Nat) (v0 v1 v2 v3 v4 : Value) : World := ((((w.setCell ⟨g, 0, none⟩ v0).setCell ⟨g, 1, none⟩ v1).setCell ⟨g, 2, none⟩ v2).setCell ⟨g, 3, none⟩ v3).setCell ⟨g, 4, none⟩ v4
theorem put6_at {w : World} {g T : Nat} {v0 v1 v2 v3 v4 v5 : Value} (h : w.heap[g]? = some (.cells #[v0, v1, v2, v3, v4, v5] T (0, 0))) (m : Mv) : (put6 w g m).heap[g]? = some (.cells #[.int .i64 m.c0, .int .i64 m.c1, .int .i64 m.c2, .int .i64 m.paid, .int .i64 m.cr, .int .i64 m.cash] T (0, 0)) := by
  have a0 := blk_set h 0 (.int .i64 m.c0)
  have a1 := blk_set a0 1 (.int .i64 m.c1)
  have a2 := blk_set a1 2 (.int .i64 m.c2)
  have a3 := blk_set a2 3 (.int .i64 m.paid)
  have a4 := blk_set a3 4 (.int .i64 m.cr)
  have a5 := blk_set a4 5 (.int .i64 m.cash)
  exact a5
theorem put5_at {w : World} {g T : Nat} {u0 u1 u2 u3 u4 : Value} (h : w.heap[g]? = some (.cells #[u0, u1, u2, u3, u4] T (0, 0))) (v0 v1 v2 v3 v4 : Value) : (put5 w g v0 v1 v2 v3 v4).heap[g]? = some (.cells #[v0, v1, v2, v3, v4] T (0, 0)) := by
  have a0 := blk_set h 0 v0
  have a1 := blk_set a0 1 v1
  have a2 := blk_set a1 2 v2
  have a3 := blk_set a2 3 v3
  have a4 := blk_set a3 4 v4
  exact a4
theorem set_far (w : World) (g i : Nat) (u : Value) {k : Nat} (h : k ≠ g) : (w.setCell ⟨g, i, none⟩ u).heap[k]? = w.heap[k]? := Below.heap_setCell w ⟨g, i, none⟩ u k h
theorem put6_far (w : World) (g : Nat) (m : Mv) {k : Nat} (h : k ≠ g) : (put6 w g m).heap[k]? = w.heap[k]? := by simp only [put6, set_far _ _ _ _ h]
theorem put5_far (w : World) (g : Nat) (v0 v1 v2 v3 v4 : Value) {k : Nat} (h : k ≠ g) : (put5 w g v0 v1 v2 v3 v4).heap[k]? = w.heap[k]? := by simp only [put5, set_far _ _ _ _ h]
/-- A region that does not panic. -/
def noPan (Q : Exit → Act → World → Prop) : Exit → Act → World → Prop
  | .panic _, _, _ => False
  | e, a, w => Q e a w
theorem noPan_le (Q : Exit → Act → World → Prop) : ∀ e a w, noPan Q e a w → Q e a w := by
  intro e a w h
  cases e with
  | panic c => exact h.elim
  | _ => exact h
/-- The world behind a step that went well. -/
@[reducible] def doneW (w2 : World) (gm ge g : Nat) (m : Mv) (v0 v1 v2 v3 v4 : Value) : World :=
  ((put6 (put5 ((put6 w2 gm m).setCell ⟨ge, 0, none⟩ (.int .i64 0)) g v0 v1 v2 v3 v4) gm m).setCell ⟨ge, 0, none⟩ (.int .i64 0))
theorem doneW_facts {w2 : World} {gm ge g T : Nat} {m : Mv} {u0 u1 u2 u3 u4 x0 x1 x2 x3 x4 x5 y v0 v1 v2 v3 v4 : Value} (hm : w2.heap[gm]? = some (.cells #[x0, x1, x2, x3, x4, x5] 33 (0, 0))) (he : w2.heap[ge]? = some (.cells #[y] 28 (0, 0)))
    (hg : w2.heap[g]? = some (.cells #[u0, u1, u2, u3, u4] T (0, 0))) (h1 : gm ≠ ge) (h2 : gm ≠ g) (h3 : ge ≠ g) :
    (doneW w2 gm ge g m v0 v1 v2 v3 v4).heap[gm]? = some (.cells #[.int .i64 m.c0, .int .i64 m.c1, .int .i64 m.c2, .int .i64 m.paid, .int .i64 m.cr, .int .i64 m.cash] 33 (0, 0)) ∧
    (doneW w2 gm ge g m v0 v1 v2 v3 v4).heap[ge]? = some (.cells #[.int .i64 0] 28 (0, 0)) ∧
    (doneW w2 gm ge g m v0 v1 v2 v3 v4).heap[g]? = some (.cells #[v0, v1, v2, v3, v4] T (0, 0)) ∧
    (∀ k, k ≠ gm → k ≠ ge → k ≠ g → (doneW w2 gm ge g m v0 v1 v2 v3 v4).heap[k]? = w2.heap[k]?) := by
  have a1 := put6_at hm m
  have a2 := (set_far (put6 w2 gm m) ge 0 (.int .i64 0) h1).trans a1
  have a3 := (put5_far ((put6 w2 gm m).setCell ⟨ge, 0, none⟩ (.int .i64 0)) g v0 v1 v2 v3 v4 h2).trans a2
  have a4 := put6_at a3 m
  have b1 := (put6_far w2 gm m (Ne.symm h1)).trans he
  have b2 := blk_set b1 0 (.int .i64 0)
  have b3 := (put5_far ((put6 w2 gm m).setCell ⟨ge, 0, none⟩ (.int .i64 0)) g v0 v1 v2 v3 v4 h3).trans b2
  have b4 := (put6_far (put5 ((put6 w2 gm m).setCell ⟨ge, 0, none⟩ (.int .i64 0)) g v0 v1 v2 v3 v4) gm m (Ne.symm h1)).trans b3
  have c1 := (put6_far w2 gm m (Ne.symm h2)).trans hg
  have c2 := (set_far (put6 w2 gm m) ge 0 (.int .i64 0) (Ne.symm h3)).trans c1
  have c3 := put5_at c2 v0 v1 v2 v3 v4
  have c4 := (put6_far (put5 ((put6 w2 gm m).setCell ⟨ge, 0, none⟩ (.int .i64 0)) g v0 v1 v2 v3 v4) gm m (Ne.symm h2)).trans c3
  refine ⟨(set_far _ ge 0 _ h1).trans a4, blk_set b4 0 (.int .i64 0), (set_far _ ge 0 _ (Ne.symm h3)).trans c4, fun k k1 k2 k3 => ?_⟩
  exact (set_far _ ge 0 _ k2).trans ((put6_far _ gm m k1).trans ((put5_far _ g _ _ _ _ _ k3).trans ((set_far _ ge 0 _ k2).trans (put6_far _ gm m k1))))
theorem doneW_same (w2 : World) (gm ge g : Nat) (m : Mv) (v0 v1 v2 v3 v4 : Value) : (doneW w2 gm ge g m v0 v1 v2 v3 v4).os = w2.os ∧ (doneW w2 gm ge g m v0 v1 v2 v3 v4).tape = w2.tape ∧ (doneW w2 gm ge g m v0 v1 v2 v3 v4).output = w2.output ∧ (doneW w2 gm ge g m v0 v1 v2 v3 v4).heap.size = w2.heap.size := by
  refine ⟨by simp only [sc_os], by simp only [sc_tape], by simp only [sc_output], by simp only [World.size_setCell]⟩
theorem own_keep {w w' : World} {base n s : Nat} {e : TypeId} {v : Value} {xs : List Value} (h : w.ownsRow base e s v n xs) (hk : ∀ (b : Nat) (cs : Array Value), w.heap[b]? = some (.cells cs e (0, 0)) → w'.heap[b]? = w.heap[b]?) : w'.ownsRow base e s v n xs := by
  refine ⟨h.1, ?_⟩
  rcases h.2 with h2 | ⟨g, cap, cur, rfl, hb2, hg, r⟩
  · exact .inl h2
  · exact .inr ⟨g, cap, cur, rfl, hb2, (hk g cur hg).trans hg, r⟩
theorem done_end {w w2 : World} {gb g B : Nat} {S S' : Ac} {m : Mv} {x0 x1 x2 x3 x4 x5 y u0 u1 u2 u3 u4 vp vq : Value} {qs : List PmE} (hm : w2.heap[w.heap.size]? = some (.cells #[x0, x1, x2, x3, x4, x5] 33 (0, 0))) (he : w2.heap[w.heap.size + 1]? = some (.cells #[y] 28 (0, 0)))
    (hg : w2.heap[g]? = some (.cells #[u0, u1, u2, u3, u4] 83 (0, 0))) (hgl : g < w.heap.size) (ho : OwnV w2 B gb S' vp vq qs) (hb : Below w.heap.size w w2) :
    (doneW w2 w.heap.size (w.heap.size + 1) g m (.int .i64 S'.day) (.int .i64 S'.bp) (.int .i64 S'.cr) vp vq).drew.heap[w.heap.size]? = some (.cells #[.int .i64 m.c0, .int .i64 m.c1, .int .i64 m.c2, .int .i64 m.paid, .int .i64 m.cr, .int .i64 m.cash] 33 (0, 0)) ∧
    (doneW w2 w.heap.size (w.heap.size + 1) g m (.int .i64 S'.day) (.int .i64 S'.bp) (.int .i64 S'.cr) vp vq).drew.heap[w.heap.size + 1]? = some (.cells #[.int .i64 0] 28 (0, 0)) ∧
    DoesOf w g S (S', m, 0) (.returned (mvR m 0)) (doneW w2 w.heap.size (w.heap.size + 1) g m (.int .i64 S'.day) (.int .i64 S'.bp) (.int .i64 S'.cr) vp vq).drew := by
  obtain ⟨f1, f2, f3, f4⟩ := doneW_facts (v0 := .int .i64 S'.day) (v1 := .int .i64 S'.bp) (v2 := .int .i64 S'.cr) (v3 := vp) (v4 := vq) (m := m) hm he hg (by omega) (by omega) (by omega)
  obtain ⟨q1, q2, q3, q4⟩ := doneW_same w2 w.heap.size (w.heap.size + 1) g m (.int .i64 S'.day) (.int .i64 S'.bp) (.int .i64 S'.cr) vp vq
  generalize doneW w2 w.heap.size (w.heap.size + 1) g m (.int .i64 S'.day) (.int .i64 S'.bp) (.int .i64 S'.cr) vp vq = W at *
  have keep : ∀ (b : Nat) (cs : Array Value) (t : Nat), w2.heap[b]? = some (.cells cs t (0, 0)) → t ≠ 33 → t ≠ 28 → t ≠ 83 → W.heap[b]? = w2.heap[b]? := fun b cs t h t1 t2 t3 =>
    f4 b (ne_of_type' h hm t1) (ne_of_type' h he t2) (ne_of_type' h hg t3)
  refine ⟨f1, f2, ⟨q1.trans hb.os, q2.trans hb.tape, q3.trans hb.output, by rw [show W.drew.heap = W.heap from rfl, q4]; exact hb.size, fun k hk hne => ?_⟩, .inl ⟨rfl, rfl, vp, vq, qs, f3, Nat.zero_le _, ?_, ?_, ho.hm, fun q hq => ?_⟩⟩
  · exact (f4 k (by omega) (by omega) (fun e => hne (by rw [e]))).trans (hb.block k hk)
  · exact own_mono (own_keep (w' := W) ho.hp (fun b cs h => keep b cs _ h (by decide) (by decide) (by decide))) (Nat.zero_le _)
  · exact own_mono (own_keep (w' := W) ho.hq (fun b cs h => keep b cs _ h (by decide) (by decide) (by decide))) (Nat.zero_le _)
  · exact (ho.parts q hq).keep (w' := W) (fun b cs h => keep b cs _ h (by decide) (by decide) (by decide))
/-- The world behind a step that handed back an error. -/
@[reducible] def failW (w2 : World) (gm ge : Nat) (e : Int) : World := (put6 ((put6 w2 gm Mv.zero).setCell ⟨ge, 0, none⟩ (.int .i64 e)) gm Mv.zero).setCell ⟨ge, 0, none⟩ (.int .i64 e)
theorem failW_caught {w2 : World} {gm ge : Nat} {e : Int} {x0 x1 x2 x3 x4 x5 y : Value} (hm : w2.heap[gm]? = some (.cells #[x0, x1, x2, x3, x4, x5] 33 (0, 0))) (he : w2.heap[ge]? = some (.cells #[y] 28 (0, 0))) (h1 : gm ≠ ge) : Caught w2 gm ge e (failW w2 gm ge e) := by
  have a1 := put6_at hm Mv.zero
  have a2 := (set_far (put6 w2 gm Mv.zero) ge 0 (.int .i64 e) h1).trans a1
  have a3 := put6_at a2 Mv.zero
  have b1 := (put6_far w2 gm Mv.zero (Ne.symm h1)).trans he
  have b2 := blk_set b1 0 (.int .i64 e)
  have b3 := (put6_far ((put6 w2 gm Mv.zero).setCell ⟨ge, 0, none⟩ (.int .i64 e)) gm Mv.zero (Ne.symm h1)).trans b2
  refine ⟨by simp only [sc_os], by simp only [sc_tape], by simp only [sc_output], by simp only [World.size_setCell], (set_far _ ge 0 _ h1).trans a3, blk_set b3 0 (.int .i64 e), fun k k1 k2 => ?_⟩
  exact (set_far _ ge 0 _ k2).trans ((put6_far _ gm Mv.zero k1).trans ((set_far _ ge 0 _ k2).trans (put6_far _ gm Mv.zero k1)))
theorem caught_does {w w2 W : World} {g B : Nat} {S S' : Ac} {m : Mv} {e : Int} (h : Caught w2 w.heap.size (w.heap.size + 1) e W) (he : e ≠ 0) (ho : OwnAt w B g S) (hb : Below w.heap.size w w2) :
    DoesOf w g S (S', m, e) (.returned (mvR Mv.zero e)) W := by
  have hbW : Below w.heap.size w W := ⟨h.os.trans hb.os, h.tape.trans hb.tape, h.output.trans hb.output, by rw [h.size]; exact hb.size, fun k hk => (h.far k (by omega) (by omega)).trans (hb.block k hk)⟩
  exact ⟨⟨hbW.os, hbW.tape, hbW.output, hbW.size, fun k hk _ => hbW.block k hk⟩, .inr ⟨he, rfl, (ho.below hbW).mono (Nat.zero_le _)⟩⟩
theorem results_does {P : Program} {fn : Func} {p q : Tmp} {ty te : TypeId} {d : TypeDesc} (h : fn.results = #[.cell p ty, .cell q te]) (tmps : Array Value) (w : World) (g ge : Nat) (t : TypeId) (cs : Array Value) (fr : Nat × Nat) (v : Value)
    (hp : tmps.getD p undef = .pointer (some ⟨g, 0, none⟩)) (hg : w.heap[g]? = some (.cells cs t fr)) (hq : tmps.getD q undef = .pointer (some ⟨ge, 0, none⟩)) (hl : (loadVar te ⟨ge, 0, none⟩).run P w = .ok v w)
    (hu : P.underlying ty = some d) (hd : (match d with | .struct _ | .array _ _ => true | _ => false) = true) (hi : (P.info? ty).map (·.size) = some cs.size) :
    (results fn tmps).run P w = .ok (.tuple #[.agg cs, v]) w := by
  have hp' : tmps[p]?.getD undef = .pointer (some ⟨g, 0, none⟩) := by simpa using hp
  have hq' : tmps[q]?.getD undef = .pointer (some ⟨ge, 0, none⟩) := by simpa using hq
  simp [results, h, hp', hq', asAddr, run_loadVar_row w g t ty cs fr d hg hu hd hi, hl]
theorem load_errno (ge : Nat) (e : Int) (w : World) (h : w.heap[ge]? = some (.cells #[.int .i64 e] 28 (0, 0))) : (loadVar 28 ⟨ge, 0, none⟩).run Tryz.prog w = .ok (.int .i64 e) w := by
  have hc : w.cell? ⟨ge, 0, none⟩ = some (.int .i64 e) := (blk_cell h 0).trans rfl
  simp [go_sem, hc]
set_option maxHeartbeats 3200000 in
set_option maxRecDepth 100000 in
theorem does2_any (K : Nat) (c1 c2 : Value) (g B : Nat) (S : Ac) (r : Ac × Mv × Int) (w : World) (h : OwnAt w B g S) (hS : S.small)
    (hcf : ∀ (u : Value) (wx : World), (callFunc K #[u, c1, c2]).run Tryz.prog wx = .ok (.enter K #[u, c1, c2]) wx)
    (hK : ∀ (gb : Nat) (wx : World), Below w.heap.size w wx → w.heap.size + 2 ≤ wx.heap.size → OwnAt wx (w.heap.size + 2) gb S → Calls Tryz.prog K #[.pointer (some ⟨gb, 0, none⟩), c1, c2] wx (StepOf wx (w.heap.size + 2) gb r)) :
    Calls Tryz.prog 37 #[.pointer (some ⟨g, 0, none⟩), .func (.func K) #[] #[c1, c2]] w (DoesOf w g S r) := by
  have hmf : ∀ (fn : Fn) (first cap : Array Value) (w : World), (Instr.makeFunc fn first cap).run Tryz.prog w = .ok (.func fn first cap) w := fun _ _ _ _ => rfl
  have hbb : Below w.heap.size w ((w.alloc (.cells #[.int .i64 0, .int .i64 0, .int .i64 0, .int .i64 0, .int .i64 0, .int .i64 0] 33)).alloc (.cells #[.int .i64 0] 28)) := ((Below.refl _ _).alloc (Nat.le_refl _) _).alloc (by simp) _
  have HC := Lib.hid (copied_any g B S ((w.alloc (.cells #[.int .i64 0, .int .i64 0, .int .i64 0, .int .i64 0, .int .i64 0, .int .i64 0] 33)).alloc (.cells #[.int .i64 0] 28)) (h.below hbb) hS.1 hS.2.1 hS.2.2)
  have HO := Lib.hid h; have HBB := Lib.hid hbb
  have hm0 : ((w.alloc (.cells #[.int .i64 0, .int .i64 0, .int .i64 0, .int .i64 0, .int .i64 0, .int .i64 0] 33)).alloc (.cells #[.int .i64 0] 28)).heap[w.heap.size]? = some (.cells #[.int .i64 0, .int .i64 0, .int .i64 0, .int .i64 0, .int .i64 0, .int .i64 0] 33 (0, 0)) := blk_alloc (blk_new w _ rfl) _
  have he0 : ((w.alloc (.cells #[.int .i64 0, .int .i64 0, .int .i64 0, .int .i64 0, .int .i64 0, .int .i64 0] 33)).alloc (.cells #[.int .i64 0] 28)).heap[w.heap.size + 1]? = some (.cells #[.int .i64 0] 28 (0, 0)) := blk_new _ _ (by simp)
  obtain ⟨vp0, vq0, qs0, h0⟩ := h
  have HG0 := Lib.hid h0.hg
  have hgl := blk_lt h0.hg
  have z0 : ((w.alloc (.cells #[.int .i64 0, .int .i64 0, .int .i64 0, .int .i64 0, .int .i64 0, .int .i64 0] 33)).alloc (.cells #[.int .i64 0] 28)).heap.size = w.heap.size + 2 := by simp
  have HM0 := Lib.hid hm0; have HE0 := Lib.hid he0; have HZ0 := Lib.hid z0; have HKK := Lib.hid hK
  have n1 : g ≠ w.heap.size := by omega
  have n2 : g ≠ w.heap.size + 1 := by omega
  have n3 : g ≠ w.heap.size + 1 + 1 := by omega
  have n1' : w.heap.size ≠ g := by omega
  have n2' : w.heap.size + 1 ≠ g := by omega
  have n3' : w.heap.size + 1 + 1 ≠ g := by omega
  clear h0 hm0 he0 hbb z0 hK
  go_enter_defers Tryz.func37, Tryz.ntmps37
  go_wp2_with fail
  refine HC.out.mono ?_; rintro e w1 ⟨rfl, ho1, hb1⟩
  have hbw1 : Below w.heap.size w w1 := HBB.out.trans (hb1.mono (by have := HZ0.out; omega))
  have HO1 : Hid (OwnAt w1 (w.heap.size + 2) (w.heap.size + 2) S) := Lib.hid (by rw [HZ0.out] at ho1; exact ho1)
  have HB1 := Lib.hid hbw1
  have HM1 := Lib.hid (blk_below HM0.out hb1 (by have := HZ0.out; omega))
  have HE1 := Lib.hid (blk_below HE0.out hb1 (by have := HZ0.out; omega))
  have hz1 : w.heap.size + 2 ≤ w1.heap.size := by have := HZ0.out; have := hb1.size; omega
  clear ho1 hb1 hbw1
  go_wp2_with fail
  refine (HKK.out (w.heap.size + 2) w1 HB1.out hz1 HO1.out).mono ?_
  rintro e w2 ⟨hb2, hh⟩
  have hm2 := blk_below HM1.out hb2 (by omega)
  have he2 := blk_below HE1.out hb2 (by omega)
  have hg2 := blk_below (blk_below HG0.out HB1.out hgl) hb2 (by omega)
  have hbw2 : Below w.heap.size w w2 := HB1.out.trans (hb2.mono (by omega))
  have hz2 : w.heap.size + 2 ≤ w2.heap.size := Nat.le_trans hz1 hb2.size
  obtain ⟨S', m, er⟩ := r
  rcases hh with ⟨h0, rfl, ho2⟩ | ⟨h0, rfl | rfl⟩
  · simp only at h0 ho2
    subst h0
    obtain ⟨vp, vq, qs, ho2⟩ := ho2
    obtain ⟨Ap, kp, rfl, _⟩ := ho2.rdp
    obtain ⟨Aq, kq, rfl, _⟩ := ho2.rdq
    obtain ⟨m0, m1, m2, m3, m4, m5, m6⟩ := cells6U hm2
    have e0 : w2.cell? ⟨w.heap.size + 1, 0, none⟩ = some (.int .i64 0) := (blk_cell he2 0).trans rfl
    have e1 : w2.frozen? ⟨w.heap.size + 1, 0, none⟩ = false := blk_free he2 0
    obtain ⟨g0, g1, g2, g3, g4, g5⟩ := cells5U hg2
    obtain ⟨b0, b1, b2, b3, b4, b5⟩ := cells5U ho2.hg
    have hm2l := blk_lt hm2; have he2l := blk_lt he2; have hg2l := blk_lt hg2
    have HM2 := Lib.hid hm2; have HE2 := Lib.hid he2; have HG2 := Lib.hid hg2; have HO2 := Lib.hid ho2; have HBW := Lib.hid hbw2
    clear hm2 he2 hg2 ho2 hbw2 hb2
    go_wp2_with fail
    go_region_with (fail)
    all_goals go_wp2_with fail
    all_goals
      obtain ⟨E1, E2, E3⟩ := done_end (S := S) (m := m) HM2.out HE2.out HG2.out hgl HO2.out HBW.out
      refine leaves_cons (f := 95) (args := #[.pointer (some ⟨w.heap.size, 0, none⟩), .pointer (some ⟨w.heap.size + 1, 0, none⟩)]) (by simp) (by simp [go_sem]) ?_
      refine (catch_idle w.heap.size (w.heap.size + 1) _).mono ?_
      rintro e u' w'' ⟨rfl, rfl, rfl⟩
      exact ⟨_, results_does rfl _ _ _ _ _ _ _ _ rfl E1 rfl (load_errno _ _ _ E2) Tryz.underlying33 rfl (by kernel_rfl), E3⟩
  · simp only at h0
    obtain ⟨m0, m1, m2, m3, m4, m5, m6⟩ := cells6U hm2
    have e0 : w2.cell? ⟨w.heap.size + 1, 0, none⟩ = some (.int .i64 0) := (blk_cell he2 0).trans rfl
    have e1 : w2.frozen? ⟨w.heap.size + 1, 0, none⟩ = false := blk_free he2 0
    have hm2l := blk_lt hm2; have he2l := blk_lt he2
    have HM2 := Lib.hid hm2; have HE2 := Lib.hid he2; have HBW := Lib.hid hbw2
    have hne0 : (er == 0) = false := by simpa using h0
    have HN0 := Lib.hid h0
    clear hm2 he2 hg2 hbw2 hb2 h0
    go_wp2_with fail
    refine Code.wp_mono (noPan_le _) ?_
    go_region_law (fail)
    all_goals (simp only [noPan])
    all_goals go_wp2_with fail
    all_goals
      have E0 := (failW_caught (e := er) HM2.out HE2.out (by omega)).drew
      refine leaves_cons (f := 95) (args := #[.pointer (some ⟨w.heap.size, 0, none⟩), .pointer (some ⟨w.heap.size + 1, 0, none⟩)]) (by simp) (by simp [go_sem]) ?_
      refine (catch_idle w.heap.size (w.heap.size + 1) _).mono ?_
      rintro e u' w'' ⟨rfl, rfl, rfl⟩
      exact ⟨_, results_does rfl _ _ _ _ _ _ _ _ rfl E0.m rfl (load_errno _ _ _ E0.e) Tryz.underlying33 rfl (by kernel_rfl), caught_does E0 HN0.out HO.out HBW.out⟩
  · simp only at h0
    have HM2 := Lib.hid hm2; have HE2 := Lib.hid he2; have HBW := Lib.hid hbw2
    have HN0 := Lib.hid h0
    clear hm2 he2 hg2 hbw2 hb2 h0
    refine leaves_cons (f := 95) (args := #[.pointer (some ⟨w.heap.size, 0, none⟩), .pointer (some ⟨w.heap.size + 1, 0, none⟩)]) (by simp) (by simp [go_sem]) ?_
    refine (catch_pan w.heap.size (w.heap.size + 1) er Mv.zero 0 [] w2 HM2.out HE2.out (by omega)).mono ?_
    rintro e u' w'' ⟨rfl, rfl, E0⟩
    exact ⟨_, results_does rfl _ _ _ _ _ _ _ _ rfl E0.m rfl (load_errno _ _ _ E0.e) Tryz.underlying33 rfl (by kernel_rfl), caught_does E0 HN0.out HO.out HBW.out⟩
end Go.Proofs.YtbjjgnaojoaoiaaGreat
