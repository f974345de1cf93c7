/- Advance. -/
import Derived.Test.YtbjjgnaojoaoiaaGreatK35
import Derived.BigQuiet
namespace Go.Proofs.YtbjjgnaojoaoiaaGreat
open Go.RowKit Go
set_option linter.unusedVariables false
set_option linter.unusedSimpArgs false

set_option maxHeartbeats 6400000 in
set_option maxRecDepth 100000 in
theorem uadvance_any (g B : Nat) (S : Ac) (d : Int) (w : World) (h : OwnAt w B g S) (hG : Good S) :
    Calls Tryz.prog 33 #[.pointer (some ⟨g, 0, none⟩), .int .i64 d] w (DoesOf w g S (advanceS S d)) := by
  have hgl := h.lt
  have HV := Lib.hid h
  have hb0 : Below w.heap.size w ((w.alloc (.cells #[.int .i64 d] 3)).alloc (.cells #[.int .i64 0, .int .i64 0, .int .i64 0, .int .i64 0, .int .i64 0, .int .i64 0] 33)) := ((Below.refl _ _).alloc (Nat.le_refl _) _).alloc (by simp) _
  have hx0 := blk_alloc (blk_new w (.cells #[.int .i64 d] 3) rfl) (.cells #[.int .i64 0, .int .i64 0, .int .i64 0, .int .i64 0, .int .i64 0, .int .i64 0] 33)
  have hm0 := blk_new (w.alloc (.cells #[.int .i64 d] 3)) (.cells #[.int .i64 0, .int .i64 0, .int .i64 0, .int .i64 0, .int .i64 0, .int .i64 0] 33) rfl
  simp only [World.size_alloc] at hm0
  have HG := Lib.hid hG
  obtain ⟨vp, vq, hcell⟩ := h.cell
  have hcell0 := blk_below hcell hb0 hgl
  have hov0 := h.below hb0
  have hday := hG.day
  have n1 : w.heap.size + 1 ≠ g := by omega
  have hmf : ∀ (fn : Fn) (first cap : Array Value) (w : World), (Instr.makeFunc fn first cap).run Tryz.prog w = .ok (.func fn first cap) w := fun _ _ _ _ => rfl
  go_enter Tryz.func33, Tryz.ntmps33
  go_upto_region 1 with fail
  obtain ⟨X, hX⟩ : ∃ X, (w.alloc (.cells #[.int .i64 d] 3)).alloc (.cells #[.int .i64 0, .int .i64 0, .int .i64 0, .int .i64 0, .int .i64 0, .int .i64 0] 33) = X := ⟨_, rfl⟩
  rw [hX] at hb0 hx0 hm0 hcell0 hov0 ⊢
  clear hX hcell h
  obtain ⟨a0, a1, a2, a3, a4, a5⟩ := cells5U hcell0
  have cx : X.cell? ⟨w.heap.size, 0, none⟩ = some (.int .i64 d) := (blk_cell hx0 0).trans rfl
  have HX0 := Lib.hid hx0; have HM0 := Lib.hid hm0; have HB0 := Lib.hid hb0; have HOV0 := Lib.hid hov0
  have hgX := blk_lt hcell0
  have hxX := blk_lt hx0
  clear hx0 hm0 hb0 hov0 a1 a2 a3 a4 a5 hcell0
  by_cases h1 : 0 ≤ d ∧ d ≤ 36500
  · have HY := Lib.hid (fun wx => (uwithin_yes d 0 36500 wx h1).mono fun e w' (hh : e = .returned (.bool true) ∧ wx = w') => (⟨hh.1, hh.2.symm⟩ : e = .returned (.bool true) ∧ w' = wx))
    have hwr : IntKind.i64.wrap (S.day + d) = S.day + d := IntWalk.i64_in _ (by omega)
    by_cases h2 : 3652058 < S.day + d
    · have HO : Hid (advanceS S d = (S, Mv.zero, 1)) := Lib.hid (by unfold advanceS; rw [if_neg (by simpa using h1), if_pos h2])
      have hd2 : decide (S.day + d > 3652058) = true := by simpa using h2
      have HE := Lib.hid (fun (wx : World) (hb : Below X.heap.size X wx) => err_end (S' := S) (m := Mv.zero) (HB0.out.trans (hb.mono HB0.out.size)) HV.out (show (1 : Int) ≠ 0 by decide) (blk_below HM0.out hb (blk_lt HM0.out)) (by omega))
      clear h1 h2 hG hday
      go_quiet ((go_at_call 34; exact Calls.quiet_of_same (HY.out _)))
      have hbq : Below X.heap.size X (X.drewN nq) := below_drewN (Below.refl _ _) _
      have HE2 := Lib.hid (HE.out _ hbq)
      obtain ⟨m0, m1, m2, m3, m4, m5, m6⟩ := cells6U (blk_below HM0.out hbq (blk_lt HM0.out))
      have hml : w.heap.size + 1 < (X.drewN nq).heap.size := blk_lt (blk_below HM0.out hbq (blk_lt HM0.out))
      clear hbq a0 cx hwr hd2
      go_wp2_with fail
      rw [HO.out]
      exact mv_ret Mv.zero 1 (w.heap.size + 1) rfl rfl rfl HE2.out.1 HE2.out.2
    · have HO : Hid (advanceS S d = advance1 S d) := Lib.hid (by unfold advanceS; rw [if_neg (by simpa using h1), if_neg h2])
      have hd2 : decide (S.day + d > 3652058) = false := by simpa using h2
      have H1 := Lib.hid h1
      have H2 : Hid (S.day + d ≤ 3652058) := Lib.hid (by omega)
      have HD := Lib.hid (fun (wx : World) (hb : Below X.heap.size X wx) => does1_any 87 (.pointer (some ⟨w.heap.size, 0, none⟩)) g B S (advance1 S d) wx (HOV0.out.below hb) HG.out.small (fun u wx => by kernel_rfl)
          (fun gb wy hby hBy ho => advance1_any gb _ w.heap.size S d wy ho hBy (blk_below (blk_below HX0.out hb (blk_lt HX0.out)) hby (blk_lt (blk_below HX0.out hb (blk_lt HX0.out)))) HG.out H1.out H2.out))
      clear h1 h2 hG hday
      go_quiet ((go_at_call 34; exact Calls.quiet_of_same (HY.out _)))
      have hbq : Below X.heap.size X (X.drewN nq) := below_drewN (Below.refl _ _) _
      have HD1 := Lib.hid (HD.out _ hbq)
      have HMQ := Lib.hid (blk_below HM0.out hbq (blk_lt HM0.out))
      have HBQ := Lib.hid (HB0.out.trans (hbq.mono HB0.out.size))
      clear hbq a0 cx hwr hd2 HD
      go_wp2_with fail
      refine HD1.out.mono ?_; intro e w2 hd2
      obtain ⟨m, er, rfl⟩ := hd2.form
      have hm := move_keeps hd2 HMQ.out n1
      obtain ⟨m0, m1, m2, m3, m4, m5, m6⟩ := cells6U hm
      have HE := Lib.hid (DoesOf.wrap HBQ.out hd2 hm (by omega)); have HM := Lib.hid (put6_at hm m)
      clear hd2 hm HD1
      go_wp2_with fail
      rw [HO.out]
      exact mv_ret m er (w.heap.size + 1) rfl rfl rfl HM.out HE.out
  · have HY := Lib.hid (fun wx => (uwithin_no d 0 36500 wx h1).mono fun e w' (hh : e = .returned (.bool false) ∧ wx = w') => (⟨hh.1, hh.2.symm⟩ : e = .returned (.bool false) ∧ w' = wx))
    have HO : Hid (advanceS S d = (S, Mv.zero, 1)) := Lib.hid (by unfold advanceS; rw [if_pos (by simpa using h1)])
    have HE := Lib.hid (fun (wx : World) (hb : Below X.heap.size X wx) => err_end (S' := S) (m := Mv.zero) (HB0.out.trans (hb.mono HB0.out.size)) HV.out (show (1 : Int) ≠ 0 by decide) (blk_below HM0.out hb (blk_lt HM0.out)) (by omega))
    clear h1 hG hday
    go_quiet ((go_at_call 34; exact Calls.quiet_of_same (HY.out _)))
    have hbq : Below X.heap.size X (X.drewN nq) := below_drewN (Below.refl _ _) _
    have HE2 := Lib.hid (HE.out _ hbq)
    obtain ⟨m0, m1, m2, m3, m4, m5, m6⟩ := cells6U (blk_below HM0.out hbq (blk_lt HM0.out))
    have hml : w.heap.size + 1 < (X.drewN nq).heap.size := blk_lt (blk_below HM0.out hbq (blk_lt HM0.out))
    clear hbq a0 cx
    go_wp2_with fail
    rw [HO.out]
    exact mv_ret Mv.zero 1 (w.heap.size + 1) rfl rfl rfl HE2.out.1 HE2.out.2
end Go.Proofs.YtbjjgnaojoaoiaaGreat
