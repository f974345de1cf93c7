/- does, with one and with four captured values. -/
import Derived.Test.YtbjjgnaojoaoiaaGreatK15
namespace Go.Proofs.YtbjjgnaojoaoiaaGreat
open Go.RowKit Go
set_option linter.unusedVariables false
set_option linter.unusedSimpArgs false

set_option maxHeartbeats 3200000 in
set_option maxRecDepth 100000 in
theorem does1_any (K : Nat) (c1 : Value) (g B : Nat) (S : Ac) (r : Ac × Mv × Int) (w : World) (h : OwnAt w B g S) (hS : S.small)
    (hcf : ∀ (u : Value) (wx : World), (callFunc K #[u, c1]).run Tryz.prog wx = .ok (.enter K #[u, c1]) wx)
    (hK : ∀ (gb : Nat) (wx : World), Below w.heap.size w wx → w.heap.size + 2 ≤ wx.heap.size → OwnAt wx (w.heap.size + 2) gb S → Calls Tryz.prog K #[.pointer (some ⟨gb, 0, none⟩), c1] wx (StepOf wx (w.heap.size + 2) gb r)) :
    Calls Tryz.prog 37 #[.pointer (some ⟨g, 0, none⟩), .func (.func K) #[] #[c1]] w (DoesOf w g S r) := by
  have hmf : ∀ (fn : Fn) (first cap : Array Value) (w : World), (Instr.makeFunc fn first cap).run Tryz.prog w = .ok (.func fn first cap) w := fun _ _ _ _ => rfl
  have hbb : Below w.heap.size w ((w.alloc (.cells #[.int .i64 0, .int .i64 0, .int .i64 0, .int .i64 0, .int .i64 0, .int .i64 0] 33)).alloc (.cells #[.int .i64 0] 28)) := ((Below.refl _ _).alloc (Nat.le_refl _) _).alloc (by simp) _
  have HC := Lib.hid (copied_any g B S ((w.alloc (.cells #[.int .i64 0, .int .i64 0, .int .i64 0, .int .i64 0, .int .i64 0, .int .i64 0] 33)).alloc (.cells #[.int .i64 0] 28)) (h.below hbb) hS.1 hS.2.1 hS.2.2)
  have HO := Lib.hid h; have HBB := Lib.hid hbb
  have hm0 : ((w.alloc (.cells #[.int .i64 0, .int .i64 0, .int .i64 0, .int .i64 0, .int .i64 0, .int .i64 0] 33)).alloc (.cells #[.int .i64 0] 28)).heap[w.heap.size]? = some (.cells #[.int .i64 0, .int .i64 0, .int .i64 0, .int .i64 0, .int .i64 0, .int .i64 0] 33 (0, 0)) := blk_alloc (blk_new w _ rfl) _
  have he0 : ((w.alloc (.cells #[.int .i64 0, .int .i64 0, .int .i64 0, .int .i64 0, .int .i64 0, .int .i64 0] 33)).alloc (.cells #[.int .i64 0] 28)).heap[w.heap.size + 1]? = some (.cells #[.int .i64 0] 28 (0, 0)) := blk_new _ _ (by simp)
  obtain ⟨vp0, vq0, qs0, h0⟩ := h
  have HG0 := Lib.hid h0.hg
  have hgl := blk_lt h0.hg
  have z0 : ((w.alloc (.cells #[.int .i64 0, .int .i64 0, .int .i64 0, .int .i64 0, .int .i64 0, .int .i64 0] 33)).alloc (.cells #[.int .i64 0] 28)).heap.size = w.heap.size + 2 := by simp
  have HM0 := Lib.hid hm0; have HE0 := Lib.hid he0; have HZ0 := Lib.hid z0; have HKK := Lib.hid hK
  have n1 : g ≠ w.heap.size := by omega
  have n2 : g ≠ w.heap.size + 1 := by omega
  have n3 : g ≠ w.heap.size + 1 + 1 := by omega
  have n1' : w.heap.size ≠ g := by omega
  have n2' : w.heap.size + 1 ≠ g := by omega
  have n3' : w.heap.size + 1 + 1 ≠ g := by omega
  clear h0 hm0 he0 hbb z0 hK
  go_enter_defers Tryz.func37, Tryz.ntmps37
  go_wp2_with fail
  refine HC.out.mono ?_; rintro e w1 ⟨rfl, ho1, hb1⟩
  have hbw1 : Below w.heap.size w w1 := HBB.out.trans (hb1.mono (by have := HZ0.out; omega))
  have HO1 : Hid (OwnAt w1 (w.heap.size + 2) (w.heap.size + 2) S) := Lib.hid (by rw [HZ0.out] at ho1; exact ho1)
  have HB1 := Lib.hid hbw1
  have HM1 := Lib.hid (blk_below HM0.out hb1 (by have := HZ0.out; omega))
  have HE1 := Lib.hid (blk_below HE0.out hb1 (by have := HZ0.out; omega))
  have hz1 : w.heap.size + 2 ≤ w1.heap.size := by have := HZ0.out; have := hb1.size; omega
  clear ho1 hb1 hbw1
  go_wp2_with fail
  refine (HKK.out (w.heap.size + 2) w1 HB1.out hz1 HO1.out).mono ?_
  rintro e w2 ⟨hb2, hh⟩
  have hm2 := blk_below HM1.out hb2 (by omega)
  have he2 := blk_below HE1.out hb2 (by omega)
  have hg2 := blk_below (blk_below HG0.out HB1.out hgl) hb2 (by omega)
  have hbw2 : Below w.heap.size w w2 := HB1.out.trans (hb2.mono (by omega))
  have hz2 : w.heap.size + 2 ≤ w2.heap.size := Nat.le_trans hz1 hb2.size
  obtain ⟨S', m, er⟩ := r
  rcases hh with ⟨h0, rfl, ho2⟩ | ⟨h0, rfl | rfl⟩
  · simp only at h0 ho2
    subst h0
    obtain ⟨vp, vq, qs, ho2⟩ := ho2
    obtain ⟨Ap, kp, rfl, _⟩ := ho2.rdp
    obtain ⟨Aq, kq, rfl, _⟩ := ho2.rdq
    obtain ⟨m0, m1, m2, m3, m4, m5, m6⟩ := cells6U hm2
    have e0 : w2.cell? ⟨w.heap.size + 1, 0, none⟩ = some (.int .i64 0) := (blk_cell he2 0).trans rfl
    have e1 : w2.frozen? ⟨w.heap.size + 1, 0, none⟩ = false := blk_free he2 0
    obtain ⟨g0, g1, g2, g3, g4, g5⟩ := cells5U hg2
    obtain ⟨b0, b1, b2, b3, b4, b5⟩ := cells5U ho2.hg
    have hm2l := blk_lt hm2; have he2l := blk_lt he2; have hg2l := blk_lt hg2
    have HM2 := Lib.hid hm2; have HE2 := Lib.hid he2; have HG2 := Lib.hid hg2; have HO2 := Lib.hid ho2; have HBW := Lib.hid hbw2
    clear hm2 he2 hg2 ho2 hbw2 hb2
    go_wp2_with fail
    go_region_with (fail)
    all_goals go_wp2_with fail
    all_goals
      obtain ⟨E1, E2, E3⟩ := done_end (S := S) (m := m) HM2.out HE2.out HG2.out hgl HO2.out HBW.out
      refine leaves_cons (f := 95) (args := #[.pointer (some ⟨w.heap.size, 0, none⟩), .pointer (some ⟨w.heap.size + 1, 0, none⟩)]) (by simp) (by simp [go_sem]) ?_
      refine (catch_idle w.heap.size (w.heap.size + 1) _).mono ?_
      rintro e u' w'' ⟨rfl, rfl, rfl⟩
      exact ⟨_, results_does rfl _ _ _ _ _ _ _ _ rfl E1 rfl (load_errno _ _ _ E2) Tryz.underlying33 rfl (by kernel_rfl), E3⟩
  · simp only at h0
    obtain ⟨m0, m1, m2, m3, m4, m5, m6⟩ := cells6U hm2
    have e0 : w2.cell? ⟨w.heap.size + 1, 0, none⟩ = some (.int .i64 0) := (blk_cell he2 0).trans rfl
    have e1 : w2.frozen? ⟨w.heap.size + 1, 0, none⟩ = false := blk_free he2 0
    have hm2l := blk_lt hm2; have he2l := blk_lt he2
    have HM2 := Lib.hid hm2; have HE2 := Lib.hid he2; have HBW := Lib.hid hbw2
    have hne0 : (er == 0) = false := by simpa using h0
    have HN0 := Lib.hid h0
    clear hm2 he2 hg2 hbw2 hb2 h0
    go_wp2_with fail
    refine Code.wp_mono (noPan_le _) ?_
    go_region_law (fail)
    all_goals (simp only [noPan])
    all_goals go_wp2_with fail
    all_goals
      have E0 := (failW_caught (e := er) HM2.out HE2.out (by omega)).drew
      refine leaves_cons (f := 95) (args := #[.pointer (some ⟨w.heap.size, 0, none⟩), .pointer (some ⟨w.heap.size + 1, 0, none⟩)]) (by simp) (by simp [go_sem]) ?_
      refine (catch_idle w.heap.size (w.heap.size + 1) _).mono ?_
      rintro e u' w'' ⟨rfl, rfl, rfl⟩
      exact ⟨_, results_does rfl _ _ _ _ _ _ _ _ rfl E0.m rfl (load_errno _ _ _ E0.e) Tryz.underlying33 rfl (by kernel_rfl), caught_does E0 HN0.out HO.out HBW.out⟩
  · simp only at h0
    have HM2 := Lib.hid hm2; have HE2 := Lib.hid he2; have HBW := Lib.hid hbw2
    have HN0 := Lib.hid h0
    clear hm2 he2 hg2 hbw2 hb2 h0
    refine leaves_cons (f := 95) (args := #[.pointer (some ⟨w.heap.size, 0, none⟩), .pointer (some ⟨w.heap.size + 1, 0, none⟩)]) (by simp) (by simp [go_sem]) ?_
    refine (catch_pan w.heap.size (w.heap.size + 1) er Mv.zero 0 [] w2 HM2.out HE2.out (by omega)).mono ?_
    rintro e u' w'' ⟨rfl, rfl, E0⟩
    exact ⟨_, results_does rfl _ _ _ _ _ _ _ _ rfl E0.m rfl (load_errno _ _ _ E0.e) Tryz.underlying33 rfl (by kernel_rfl), caught_does E0 HN0.out HO.out HBW.out⟩
set_option maxHeartbeats 3200000 in
set_option maxRecDepth 100000 in
theorem does4_any (K : Nat) (c1 c2 c3 c4 : Value) (g B : Nat) (S : Ac) (r : Ac × Mv × Int) (w : World) (h : OwnAt w B g S) (hS : S.small)
    (hcf : ∀ (u : Value) (wx : World), (callFunc K #[u, c1, c2, c3, c4]).run Tryz.prog wx = .ok (.enter K #[u, c1, c2, c3, c4]) wx)
    (hK : ∀ (gb : Nat) (wx : World), Below w.heap.size w wx → w.heap.size + 2 ≤ wx.heap.size → OwnAt wx (w.heap.size + 2) gb S → Calls Tryz.prog K #[.pointer (some ⟨gb, 0, none⟩), c1, c2, c3, c4] wx (StepOf wx (w.heap.size + 2) gb r)) :
    Calls Tryz.prog 37 #[.pointer (some ⟨g, 0, none⟩), .func (.func K) #[] #[c1, c2, c3, c4]] w (DoesOf w g S r) := by
  have hmf : ∀ (fn : Fn) (first cap : Array Value) (w : World), (Instr.makeFunc fn first cap).run Tryz.prog w = .ok (.func fn first cap) w := fun _ _ _ _ => rfl
  have hbb : Below w.heap.size w ((w.alloc (.cells #[.int .i64 0, .int .i64 0, .int .i64 0, .int .i64 0, .int .i64 0, .int .i64 0] 33)).alloc (.cells #[.int .i64 0] 28)) := ((Below.refl _ _).alloc (Nat.le_refl _) _).alloc (by simp) _
  have HC := Lib.hid (copied_any g B S ((w.alloc (.cells #[.int .i64 0, .int .i64 0, .int .i64 0, .int .i64 0, .int .i64 0, .int .i64 0] 33)).alloc (.cells #[.int .i64 0] 28)) (h.below hbb) hS.1 hS.2.1 hS.2.2)
  have HO := Lib.hid h; have HBB := Lib.hid hbb
  have hm0 : ((w.alloc (.cells #[.int .i64 0, .int .i64 0, .int .i64 0, .int .i64 0, .int .i64 0, .int .i64 0] 33)).alloc (.cells #[.int .i64 0] 28)).heap[w.heap.size]? = some (.cells #[.int .i64 0, .int .i64 0, .int .i64 0, .int .i64 0, .int .i64 0, .int .i64 0] 33 (0, 0)) := blk_alloc (blk_new w _ rfl) _
  have he0 : ((w.alloc (.cells #[.int .i64 0, .int .i64 0, .int .i64 0, .int .i64 0, .int .i64 0, .int .i64 0] 33)).alloc (.cells #[.int .i64 0] 28)).heap[w.heap.size + 1]? = some (.cells #[.int .i64 0] 28 (0, 0)) := blk_new _ _ (by simp)
  obtain ⟨vp0, vq0, qs0, h0⟩ := h
  have HG0 := Lib.hid h0.hg
  have hgl := blk_lt h0.hg
  have z0 : ((w.alloc (.cells #[.int .i64 0, .int .i64 0, .int .i64 0, .int .i64 0, .int .i64 0, .int .i64 0] 33)).alloc (.cells #[.int .i64 0] 28)).heap.size = w.heap.size + 2 := by simp
  have HM0 := Lib.hid hm0; have HE0 := Lib.hid he0; have HZ0 := Lib.hid z0; have HKK := Lib.hid hK
  have n1 : g ≠ w.heap.size := by omega
  have n2 : g ≠ w.heap.size + 1 := by omega
  have n3 : g ≠ w.heap.size + 1 + 1 := by omega
  have n1' : w.heap.size ≠ g := by omega
  have n2' : w.heap.size + 1 ≠ g := by omega
  have n3' : w.heap.size + 1 + 1 ≠ g := by omega
  clear h0 hm0 he0 hbb z0 hK
  go_enter_defers Tryz.func37, Tryz.ntmps37
  go_wp2_with fail
  refine HC.out.mono ?_; rintro e w1 ⟨rfl, ho1, hb1⟩
  have hbw1 : Below w.heap.size w w1 := HBB.out.trans (hb1.mono (by have := HZ0.out; omega))
  have HO1 : Hid (OwnAt w1 (w.heap.size + 2) (w.heap.size + 2) S) := Lib.hid (by rw [HZ0.out] at ho1; exact ho1)
  have HB1 := Lib.hid hbw1
  have HM1 := Lib.hid (blk_below HM0.out hb1 (by have := HZ0.out; omega))
  have HE1 := Lib.hid (blk_below HE0.out hb1 (by have := HZ0.out; omega))
  have hz1 : w.heap.size + 2 ≤ w1.heap.size := by have := HZ0.out; have := hb1.size; omega
  clear ho1 hb1 hbw1
  go_wp2_with fail
  refine (HKK.out (w.heap.size + 2) w1 HB1.out hz1 HO1.out).mono ?_
  rintro e w2 ⟨hb2, hh⟩
  have hm2 := blk_below HM1.out hb2 (by omega)
  have he2 := blk_below HE1.out hb2 (by omega)
  have hg2 := blk_below (blk_below HG0.out HB1.out hgl) hb2 (by omega)
  have hbw2 : Below w.heap.size w w2 := HB1.out.trans (hb2.mono (by omega))
  have hz2 : w.heap.size + 2 ≤ w2.heap.size := Nat.le_trans hz1 hb2.size
  obtain ⟨S', m, er⟩ := r
  rcases hh with ⟨h0, rfl, ho2⟩ | ⟨h0, rfl | rfl⟩
  · simp only at h0 ho2
    subst h0
    obtain ⟨vp, vq, qs, ho2⟩ := ho2
    obtain ⟨Ap, kp, rfl, _⟩ := ho2.rdp
    obtain ⟨Aq, kq, rfl, _⟩ := ho2.rdq
    obtain ⟨m0, m1, m2, m3, m4, m5, m6⟩ := cells6U hm2
    have e0 : w2.cell? ⟨w.heap.size + 1, 0, none⟩ = some (.int .i64 0) := (blk_cell he2 0).trans rfl
    have e1 : w2.frozen? ⟨w.heap.size + 1, 0, none⟩ = false := blk_free he2 0
    obtain ⟨g0, g1, g2, g3, g4, g5⟩ := cells5U hg2
    obtain ⟨b0, b1, b2, b3, b4, b5⟩ := cells5U ho2.hg
    have hm2l := blk_lt hm2; have he2l := blk_lt he2; have hg2l := blk_lt hg2
    have HM2 := Lib.hid hm2; have HE2 := Lib.hid he2; have HG2 := Lib.hid hg2; have HO2 := Lib.hid ho2; have HBW := Lib.hid hbw2
    clear hm2 he2 hg2 ho2 hbw2 hb2
    go_wp2_with fail
    go_region_with (fail)
    all_goals go_wp2_with fail
    all_goals
      obtain ⟨E1, E2, E3⟩ := done_end (S := S) (m := m) HM2.out HE2.out HG2.out hgl HO2.out HBW.out
      refine leaves_cons (f := 95) (args := #[.pointer (some ⟨w.heap.size, 0, none⟩), .pointer (some ⟨w.heap.size + 1, 0, none⟩)]) (by simp) (by simp [go_sem]) ?_
      refine (catch_idle w.heap.size (w.heap.size + 1) _).mono ?_
      rintro e u' w'' ⟨rfl, rfl, rfl⟩
      exact ⟨_, results_does rfl _ _ _ _ _ _ _ _ rfl E1 rfl (load_errno _ _ _ E2) Tryz.underlying33 rfl (by kernel_rfl), E3⟩
  · simp only at h0
    obtain ⟨m0, m1, m2, m3, m4, m5, m6⟩ := cells6U hm2
    have e0 : w2.cell? ⟨w.heap.size + 1, 0, none⟩ = some (.int .i64 0) := (blk_cell he2 0).trans rfl
    have e1 : w2.frozen? ⟨w.heap.size + 1, 0, none⟩ = false := blk_free he2 0
    have hm2l := blk_lt hm2; have he2l := blk_lt he2
    have HM2 := Lib.hid hm2; have HE2 := Lib.hid he2; have HBW := Lib.hid hbw2
    have hne0 : (er == 0) = false := by simpa using h0
    have HN0 := Lib.hid h0
    clear hm2 he2 hg2 hbw2 hb2 h0
    go_wp2_with fail
    refine Code.wp_mono (noPan_le _) ?_
    go_region_law (fail)
    all_goals (simp only [noPan])
    all_goals go_wp2_with fail
    all_goals
      have E0 := (failW_caught (e := er) HM2.out HE2.out (by omega)).drew
      refine leaves_cons (f := 95) (args := #[.pointer (some ⟨w.heap.size, 0, none⟩), .pointer (some ⟨w.heap.size + 1, 0, none⟩)]) (by simp) (by simp [go_sem]) ?_
      refine (catch_idle w.heap.size (w.heap.size + 1) _).mono ?_
      rintro e u' w'' ⟨rfl, rfl, rfl⟩
      exact ⟨_, results_does rfl _ _ _ _ _ _ _ _ rfl E0.m rfl (load_errno _ _ _ E0.e) Tryz.underlying33 rfl (by kernel_rfl), caught_does E0 HN0.out HO.out HBW.out⟩
  · simp only at h0
    have HM2 := Lib.hid hm2; have HE2 := Lib.hid he2; have HBW := Lib.hid hbw2
    have HN0 := Lib.hid h0
    clear hm2 he2 hg2 hbw2 hb2 h0
    refine leaves_cons (f := 95) (args := #[.pointer (some ⟨w.heap.size, 0, none⟩), .pointer (some ⟨w.heap.size + 1, 0, none⟩)]) (by simp) (by simp [go_sem]) ?_
    refine (catch_pan w.heap.size (w.heap.size + 1) er Mv.zero 0 [] w2 HM2.out HE2.out (by omega)).mono ?_
    rintro e u' w'' ⟨rfl, rfl, E0⟩
    exact ⟨_, results_does rfl _ _ _ _ _ _ _ _ rfl E0.m rfl (load_errno _ _ _ E0.e) Tryz.underlying33 rfl (by kernel_rfl), caught_does E0 HN0.out HO.out HBW.out⟩
end Go.Proofs.YtbjjgnaojoaoiaaGreat
