/- Laws. -/
import Derived.Test.YtbjjgnaojoaoiaaGreatZZ31
import Derived.Test.YtbjjgnaojoaoiaaGreatZZ27
namespace Go.Proofs.YtbjjgnaojoaoiaaGreat
open Go.RowKit Go
set_option linter.unusedVariables false
set_option linter.unusedSimpArgs false
set_option maxHeartbeats 6400000
set_option maxRecDepth 100000
theorem reverse_any (g B : Nat) (S : Ac) (id : Int) (w : World) (h : OwnAt w B g S) (hG : Good S) :
  Calls Tryz.prog 27 #[.pointer (some ⟨g, 0, none⟩), .int .i64 id] w (DoesOf w g S (reverseS S id)) := by
 have hgl := h.lt
 have HV := hyd h
 have hb0 : Below w.heap.size w (w.alloc (.cells #[.int .i64 0, .int .i64 0, .int .i64 0, .int .i64 0, .int .i64 0, .int .i64 0] 33)) := bnewU _ _
 have hm0 := blk_new w (.cells #[.int .i64 0, .int .i64 0, .int .i64 0, .int .i64 0, .int .i64 0, .int .i64 0] 33) rfl
 have HM0 := hyd hm0; have HB0 := hyd hb0; have HG := hyd hG
 obtain ⟨vp, vq, qs, hov⟩ := h
 have hov0 := hov.below hb0
 have hn1000 := hG.small.1
 have HPM := hyd (fun (wx : World) hv => payment_any g B S vp vq qs id wx hv hn1000)
 have hnm := hG.nm
 have n1 : w.heap.size ≠ g := by omega
 have hmf : ∀ (fn : Fn) (first cap : Array Value) (w : World), (Instr.makeFunc fn first cap).run Tryz.prog w = .ok (.func fn first cap) w := fun _ _ _ _ => rfl
 have HOV0 := hyd hov0
 by_cases h0 : S.pay id < 0
 · have HO : Hid (reverseS S id = (S, Mv.zero, 4)) := hyd (by unfold reverseS; rw [if_pos h0])
   have hd : decide (S.pay id < 0) = true := by simpa using h0
   obtain ⟨z, hz⟩ : ∃ z, S.pay id = z := ⟨_, rfl⟩
   rw [hz] at HPM hd
   clear hov hb0 hm0 hG hov0 hn1000 h0 hz
   go_enter Tryz.func27, Tryz.ntmps27
   go_wp2_with fail
   refine (HPM.out _ HOV0.out).mono ?_; rintro e w1 ⟨rfl, hb1⟩
   have hm1 := blk_below HM0.out hb1 (blk_lt HM0.out)
   have hbw1 : Below w.heap.size w w1 := HB0.out.trans (hb1.mono HB0.out.size)
   clear hb1
   go_upto_region 2 with fail
   have hbx := bnewU w1 (.cells #[.int .i64 z] 3)
   have hix := blk_new w1 (.cells #[.int .i64 z] 3) rfl
   have hmx := blk_below hm1 hbx (blk_lt hm1)
   have hbwx := hbw1.trans (hbx.mono hbw1.size)
   obtain ⟨gx, hgx⟩ : ∃ gx, w1.heap.size = gx := ⟨_, rfl⟩
   rw [hgx] at hix ⊢
   generalize w1.alloc (.cells #[.int .i64 z] 3) = X at *
   obtain ⟨m0, m1, m2, m3, m4, m5, m6⟩ := cells6U hmx
   have hmlx := blk_lt hmx
   have cx : X.cell? ⟨gx, 0, none⟩ = some (.int .i64 z) := (blk_cell hix 0).trans rfl
   have HE := hyd (err_end (S' := S) (m := Mv.zero) hbwx HV.out (show (4 : Int) ≠ 0 by decide) hmx (Nat.le_refl _))
   clear hbx hix hmx hbwx hm1 hbw1 hgx HM0 HB0 HOV0
   go_wp2_with fail
   rw [HO.out]
   exact mv_ret Mv.zero 4 w.heap.size rfl rfl rfl HE.out.1 HE.out.2
 · obtain ⟨i, hi, e1, e2, e3⟩ := pay_at h0
   have hO : reverseS S id = if S.ms[i].rev = true then (S, Mv.zero, 5) else if S.cr < S.ms[i].rest then (S, Mv.zero, 2) else reverse1 S i S.ms[i] := by
    unfold reverseS; rw [if_neg h0, e3, e1, Int.toNat_natCast]
   have HO := hyd hO
   rw [e1] at HPM
   have hd : decide ((i : Int) < 0) = false := by simp
   have HI := hyd hi
   have i1 : (0 : Int) ≤ (i : Int) := by omega
   have i2 : (i : Int) < (S.ms.length : Int) := by omega
   clear hov hb0 hm0 hG hov0 hn1000 h0 hO e1 e2 e3
   go_enter Tryz.func27, Tryz.ntmps27
   go_wp2_with fail
   refine (HPM.out _ HOV0.out).mono ?_; rintro e w1 ⟨rfl, hb1⟩
   have hm1 := blk_below HM0.out hb1 (blk_lt HM0.out)
   have hov1 := HOV0.out.below hb1
   have hbw1 : Below w.heap.size w w1 := HB0.out.trans (hb1.mono HB0.out.size)
   clear hb1 HPM
   go_upto_region 2 with fail
   have hbx := bnewU w1 (.cells #[.int .i64 i] 3)
   have hix := blk_new w1 (.cells #[.int .i64 i] 3) rfl
   have hmx := blk_below hm1 hbx (blk_lt hm1)
   have hox := hov1.below hbx
   have hbwx := hbw1.trans (hbx.mono hbw1.size)
   obtain ⟨gx, hgx⟩ : ∃ gx, w1.heap.size = gx := ⟨_, rfl⟩
   rw [hgx] at hix ⊢
   generalize w1.alloc (.cells #[.int .i64 i] 3) = X at *
   have cx : X.cell? ⟨gx, 0, none⟩ = some (.int .i64 i) := (blk_cell hix 0).trans rfl
   clear hbx hm1 hbw1 hgx HM0 HB0 HOV0 hov1
   obtain ⟨gq, cap, hq, rfl, hql, hqB, hqp, hpt, ⟨k0, k2, k3, k4, k5⟩, kf⟩ := hox.pmAt (i := i) HI.out
   obtain ⟨a0, a1, a2, a3, a4, a5⟩ := cells5U hox.hg
   have hxl := blk_lt hix
   have hgxl := blk_lt hox.hg
   have HIX := hyd hix; have HMX := hyd hmx; have HOX := hyd hox; have HBX := hyd hbwx
   clear hix hmx hox hbwx hpt hqp hqB k0 k2 k3 kf a0 a1 a3 a5
   by_cases hr : S.ms[i].rev = true
   · have HOO : Hid (reverseS S id = (S, Mv.zero, 5)) := hyd (HO.out.trans (if_pos hr))
     have k5' : X.cell? ⟨gq, i * 6 + 5, none⟩ = some (.bool true) := k5.trans (congrArg (fun b => some (Value.bool b)) hr)
     clear k5
     clear hr k4 a2
     have HE := hyd (fun (wx : World) (hb : Below X.heap.size X wx) => err_end (S' := S) (m := Mv.zero) (HBX.out.trans (hb.mono HBX.out.size)) HV.out (show (5 : Int) ≠ 0 by decide) (blk_below HMX.out hb (blk_lt HMX.out)) (Nat.le_refl _))
     go_wp2_with fail
     go_quiet (fail)
     have hbq : Below X.heap.size X (X.drewN nq) := below_drewN (Below.refl _ _) _
     have hE := HE.out _ hbq
     obtain ⟨m0, m1, m2, m3, m4, m5, m6⟩ := cells6U (blk_below HMX.out hbq (blk_lt HMX.out))
     have hml : w.heap.size < (X.drewN nq).heap.size := blk_lt (blk_below HMX.out hbq (blk_lt HMX.out))
     have HE2 := hyd hE
     clear hE hbq k5' a4 cx
     go_wp2_with fail
     rw [HOO.out]
     exact mv_ret Mv.zero 5 w.heap.size rfl rfl rfl HE2.out.1 HE2.out.2
   · have HO1 := hyd (HO.out.trans (if_neg hr))
     have k5' : X.cell? ⟨gq, i * 6 + 5, none⟩ = some (.bool false) := k5.trans (congrArg (fun b => some (Value.bool b)) (Bool.eq_false_iff.2 hr))
     clear k5
     have HE := hyd (fun (wx : World) (hb : Below X.heap.size X wx) => err_end (S' := S) (m := Mv.zero) (HBX.out.trans (hb.mono HBX.out.size)) HV.out (show (2 : Int) ≠ 0 by decide) (blk_below HMX.out hb (blk_lt HMX.out)) (Nat.le_refl _))
     by_cases hc : S.cr < S.ms[i].rest
     · have HOO := hyd (HO1.out.trans (if_pos hc))
       have hdc : decide (S.ms[i].rest > S.cr) = true := by simpa using hc
       have hdc2 : decide (S.cr < S.ms[i].rest) = true := by simpa using hc
       clear hr HO1 HO
       go_wp2_with fail
       go_quiet (fail)
       revert nq; intro nqa
       go_wp2_with fail
       go_quiet (fail)
       have hbq : Below X.heap.size X (X.drewN (nqa + nq)) := below_drewN (Below.refl _ _) _
       have hE := HE.out _ hbq
       obtain ⟨m0, m1, m2, m3, m4, m5, m6⟩ := cells6U (blk_below HMX.out hbq (blk_lt HMX.out))
       have hml : w.heap.size < (X.drewN (nqa + nq)).heap.size := blk_lt (blk_below HMX.out hbq (blk_lt HMX.out))
       have HE2 := hyd hE
       clear hE hbq k5' a4 cx
       go_wp2_with fail
       rw [HOO.out]
       exact mv_ret Mv.zero 2 w.heap.size rfl rfl rfl HE2.out.1 HE2.out.2
     · have HOO := hyd (HO1.out.trans (if_neg hc))
       have hdc : decide (S.ms[i].rest > S.cr) = false := by simpa using hc
       have hdc2 : S.ms[i].rest ≤ S.cr := by omega
       have HC : Hid (S.ms[i].rest ≤ S.cr) := hyd (by omega)
       have HD := hyd (fun (wx : World) (hb : Below X.heap.size X wx) => does1_any 63 (.pointer (some ⟨gx, 0, none⟩)) g B S (reverse1 S i S.ms[i]) wx ⟨_, _, _, HOX.out.below hb⟩ HG.out.small (fun u wx => by kernel_rfl)
        (fun gb wy hby hBy ho => reverse1_any gb _ gx S i wy ho hBy (blk_below (blk_below HIX.out hb (blk_lt HIX.out)) hby (blk_lt (blk_below HIX.out hb (blk_lt HIX.out)))) HG.out HI.out HC.out))
       clear hr HO1 hc HO
       go_wp2_with fail
       go_quiet (fail)
       revert nq; intro nqa
       go_wp2_with fail
       go_quiet (fail)
       have hbq : Below X.heap.size X (X.drewN (nqa + nq)) := below_drewN (Below.refl _ _) _
       have HD1 := hyd (HD.out _ hbq)
       have hmq := blk_below HMX.out hbq (blk_lt HMX.out)
       have HBQ := hyd (HBX.out.trans (hbq.mono HBX.out.size))
       have HMQ := hyd hmq
       clear hbq k5' a4 cx HD HE hmq
       go_wp2_with fail
       refine HD1.out.mono ?_; intro e w2 hd2
       obtain ⟨m, er, rfl⟩ := hd2.form
       have hm := move_keeps hd2 HMQ.out n1
       obtain ⟨m0, m1, m2, m3, m4, m5, m6⟩ := cells6U hm
       have HE := hyd (DoesOf.wrap HBQ.out hd2 hm (Nat.le_refl _)); have HM := hyd (put6_at hm m)
       clear hd2 hm HD1
       go_wp2_with fail
       rw [HOO.out]
       exact mv_ret m er w.heap.size rfl rfl rfl HM.out HE.out
end Go.Proofs.YtbjjgnaojoaoiaaGreat
