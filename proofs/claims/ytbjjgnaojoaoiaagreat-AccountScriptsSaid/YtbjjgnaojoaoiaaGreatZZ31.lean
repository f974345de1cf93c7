/- Laws. -/
import Derived.Test.YtbjjgnaojoaoiaaGreatZZ24
import Derived.StillTailTactics
namespace Go.Proofs.YtbjjgnaojoaoiaaGreat
open Go.RowKit Go
set_option linter.unusedVariables false
set_option linter.unusedSimpArgs false
set_option maxHeartbeats 6400000
set_option maxRecDepth 100000
theorem reverse1_any (gb B gi : Nat) (S : Ac) (i : Nat) (w : World) (h : OwnAt w B gb S) (hB : B ≤ w.heap.size) (hx : w.heap[gi]? = some (.cells #[.int .i64 i] 3 (0, 0))) (hG : Good S) (hi : i < S.ms.length) (hc : S.ms[i].rest ≤ S.cr) :
  Calls Tryz.prog 63 #[.pointer (some ⟨gb, 0, none⟩), .pointer (some ⟨gi, 0, none⟩)] w (StepOf w B gb (reverse1 S i S.ms[i])) := by
 obtain ⟨vp, vq, qs, h⟩ := h
 have hBg := h.hB
 have hgl := blk_lt h.hg
 have hxl := blk_lt hx
 have hb0 : Below w.heap.size w (w.alloc (.cells #[.int .i64 0, .int .i64 0, .int .i64 0, .int .i64 0, .int .i64 0, .int .i64 0] 33)) := bnewU _ _
 obtain ⟨gq, cap, hq, rfl, hql, hqB, hqp, hpt, ⟨k0, k2, k3, k4, k5⟩, kf⟩ := h.pmAt hi
 have HGF := hyd (reverse_facts hG hi)
 have hpm := hG.pm _ (List.getElem_mem hi)
 obtain ⟨Av, cv, ev⟩ := hpt.form
 have hov0 := h.below hb0
 have hpt0 := hpt.below hb0
 have HV0 := hyd hov0; have HB0 := hyd hb0
 have HM0 := hyd (blk_new w (.cells #[.int .i64 0, .int .i64 0, .int .i64 0, .int .i64 0, .int .i64 0, .int .i64 0] 33) rfl)
 have HX0 := hyd (blk_alloc hx (.cells #[.int .i64 0, .int .i64 0, .int .i64 0, .int .i64 0, .int .i64 0, .int .i64 0] 33))
 obtain ⟨a0, a1, a2, a3, a4, a5⟩ := cells5U h.hg
 have cx : w.cell? ⟨gi, 0, none⟩ = some (.int .i64 i) := (blk_cell hx 0).trans rfl
 have hne : gb ≠ gi := ne_of_type' h.hg hx (by decide)
 have hnp := hG.np; have hnm := hG.nm; have hday := hG.day; have hcr := hG.cr
 have i1 : (0 : Int) ≤ (i : Int) := by omega
 have i2 : (i : Int) < (S.ms.length : Int) := by omega
 rw [ev] at k3
 have HPT0 := hyd hpt0
 have HGV := hyd (fun (wx : World) (hb : Below (w.alloc (.cells #[.int .i64 0, .int .i64 0, .int .i64 0, .int .i64 0, .int .i64 0, .int .i64 0] 33)).heap.size (w.alloc (.cells #[.int .i64 0, .int .i64 0, .int .i64 0, .int .i64 0, .int .i64 0, .int .i64 0] 33)) wx) =>
  give_any gb B S vp _ qs Av S.ms[i].parts.length cv S.ms[i].parts 1 wx (HV0.out.below hb) (by rw [← ev]; exact HPT0.out.below hb) (Nat.le_trans hB (Nat.le_trans HB0.out.size (by simpa using hb.size))) (by omega) (by have := hpm.len; omega) hday HGF.out)
 clear a0 a1 a2 a3 h hov0 hb0 hpt0 hx k0
 go_enter Tryz.func63, Tryz.ntmps63
 go_wp2_with fail
 go_quiet (fail)
 go_wp2_with fail
 have hbq : Below (w.alloc (.cells #[.int .i64 0, .int .i64 0, .int .i64 0, .int .i64 0, .int .i64 0, .int .i64 0] 33)).heap.size (w.alloc (.cells #[.int .i64 0, .int .i64 0, .int .i64 0, .int .i64 0, .int .i64 0, .int .i64 0] 33)) ((w.alloc (.cells #[.int .i64 0, .int .i64 0, .int .i64 0, .int .i64 0, .int .i64 0, .int .i64 0] 33)).drewN nq) := below_drewN (Below.refl _ _) _
 refine (HGV.out _ hbq).mono ?_; rintro e w2 ⟨ht, hm⟩
 have hbw2 : Below B w w2 := (HB0.out.mono hB).trans ((below_drewN (Below.refl B _) nq).trans ht.bel)
 have hm2 := ht.box (HV0.out.below hbq) (blk_below HM0.out hbq (blk_lt HM0.out)) (by decide)
 cases hgs : giveS S.day 1 S.ps S.ms[i].parts with
 | none =>
   rw [hgs] at hm
   simp only at hm
   subst hm
   refine ⟨rfl, hbw2, ?_⟩
   unfold reverse1
   rw [hgs]
   exact .inr ⟨by show (2 : Int) ≠ 0; decide, .inr rfl⟩
 | some ps =>
   rw [hgs] at hm
   obtain ⟨⟨u, rfl⟩, ho2, _, hl2⟩ := hm
   have HO : Hid (reverse1 S i S.ms[i] = ({ S with ps := ps, cr := S.cr - S.ms[i].rest, ms := S.ms.set i S.ms[i].back }, ⟨0, 0, 0, S.ms[i].rest - S.ms[i].amt, -S.ms[i].rest, -S.ms[i].amt⟩, 0)) := hyd (by unfold reverse1; rw [hgs])
   obtain ⟨gq', cap', hq', eq', hql2, hqB2, hqp2, hpt2, ⟨k0, k2', k3', k4', k5'⟩, kf'⟩ := ho2.pmAt (i := i) hi
   injection eq' with eq1 _ eq3
   injection eq1 with eq1
   injection eq1 with eq1 _ _
   subst eq1 eq3
   obtain ⟨a0, a1, a2, a3, a4', a5'⟩ := cells5U ho2.hg
   have hgl2 := blk_lt ho2.hg
   have hgq : gb ≠ gq := fun e => by
    obtain ⟨_, cs, hcs⟩ := own_block_type ho2.hq (b := gq) rfl
    rw [← e] at hcs; exact ne_of_type' ho2.hg hcs (by decide) rfl
   have hgm : w.heap.size ≠ gb := fun e => by rw [e] at hm2; exact ne_of_type' ho2.hg hm2 (by decide) rfl
   have hgmq : w.heap.size ≠ gq := by omega
   have hml2 := blk_lt hm2
   have hr0 := hpm.rest
   have hsum := hpm.sum
   have hamt := hpm.amt
   have hro : S.ms[i].rest ≤ 1125899906842624 := by
    have := opens_nn (l := S.ms[i].parts) (fun x hx => by have := (hpm.placed x hx).2.2; omega)
    omega
   have HO2 := hyd ho2; have HM2 := hyd hm2; have HBW2 := hyd hbw2
   have w1' : IntKind.i64.wrap (S.cr - S.ms[i].rest) = S.cr - S.ms[i].rest := IntWalk.i64_in _ (by omega)
   have w2' : IntKind.i64.wrap (S.ms[i].rest - S.ms[i].amt) = S.ms[i].rest - S.ms[i].amt := IntWalk.i64_in _ (by omega)
   have w3' : IntKind.i64.wrap (-S.ms[i].rest) = -S.ms[i].rest := IntWalk.i64_in _ (by omega)
   have w4' : IntKind.i64.wrap (-S.ms[i].amt) = -S.ms[i].amt := IntWalk.i64_in _ (by omega)
   clear hgs ho2 hm2 hbw2 ht hl2 hbq hpt hpt2 k0 k2 k3 k4 k5 a0 a1 a3 a4 a5 cx HGV HGF
   simp only at a2 k2' k3' k4' k5'
   have hbk : (S.ms[i].back).rest = S.ms[i].rest ∧ (S.ms[i].back).amt = S.ms[i].amt ∧ (S.ms[i].back).id = S.ms[i].id := ⟨rfl, rfl, rfl⟩
   go_upto_region 3 with fail
   go_cut [] from 18 to 28 (fun wc => OwnV wc B gb { S with ps := ps, cr := S.cr - S.ms[i].rest } vp (.slice (some ⟨gq, 0, none⟩) S.ms.length cap) qs ∧ Below B w wc ∧ wc.heap[w.heap.size]? = some (.cells #[.int .i64 0, .int .i64 0, .int .i64 0, .int .i64 0, .int .i64 0, .int .i64 0] 33 (0, 0)))
   case first =>
    go_region_with (fail)
    all_goals go_wp2_with fail
    all_goals go_meet
    all_goals
     have p := (Puts.start (b := gb) (Below.refl w2.heap.size w2)).set 2 (.int .i64 (S.cr - S.ms[i].rest))
     exact ⟨(HO2.out.setCr p).drew, (HBW2.out.setCell hBg _).drew, (p.far w.heap.size hml2 hgm).trans HM2.out⟩
   case rest =>
    obtain ⟨hoc, hbc, hmc⟩ := hcut
    obtain ⟨gq', cap', hq', eq', hql3, hqB3, hqp3, hpt3, ⟨z0, z2, z3, z4, z5⟩, zf⟩ := hoc.pmAt (i := i) hi
    injection eq' with eq1 _ eq3
    injection eq1 with eq1
    injection eq1 with eq1 _ _
    subst eq1 eq3
    simp only at z2 z4 z5
    have pX : Puts wc gq [(i * 6 + 5, .bool true)] (wc.setCell ⟨gq, i * 6 + 5, none⟩ (.bool true)) := (Puts.start (Below.refl _ _)).set _ _
    have hoX := hoc.putq (ms := S.ms.set i S.ms[i].back) (qs' := qs.set i ⟨S.ms[i].back, qs[i].v⟩) pX (by simp) (by
      rw [List.map_set, hoc.hm]) (by
      simp only [List.foldl_cons, List.foldl_nil]
      exact pm_put hq (by omega) (by rw [pmC, hqp]; rfl)) (fun q hqq => by
      rcases List.mem_or_eq_of_mem_set hqq with h1 | rfl
      · exact hoc.parts q h1
      · exact hpt3) (by show 0 < S.ms.length; omega)
    have hmX : (wc.setCell ⟨gq, i * 6 + 5, none⟩ (.bool true)).heap[w.heap.size]? = some (.cells #[.int .i64 0, .int .i64 0, .int .i64 0, .int .i64 0, .int .i64 0, .int .i64 0] 33 (0, 0)) := (pX.far w.heap.size (blk_lt hmc) hgmq).trans hmc
    have hbX : Below B w (wc.setCell ⟨gq, i * 6 + 5, none⟩ (.bool true)) := hbc.setCell hqB _
    have x2 : (wc.setCell ⟨gq, i * 6 + 5, none⟩ (.bool true)).cell? ⟨gq, i * 6 + 2, none⟩ = some (.int .i64 S.ms[i].amt) := by rw [World.cell?_setCell_other _ _ _ _ (by simp)]; exact z2
    have x4 : (wc.setCell ⟨gq, i * 6 + 5, none⟩ (.bool true)).cell? ⟨gq, i * 6 + 4, none⟩ = some (.int .i64 S.ms[i].rest) := by rw [World.cell?_setCell_other _ _ _ _ (by simp)]; exact z4
    have zf5 := zf (i * 6 + 5)
    have HOX := hyd hoX; have HMX := hyd hmX; have HBX := hyd hbX
    go_upto_region 5 with fail
    generalize wc.setCell ⟨gq, i * 6 + 5, none⟩ (.bool true) = X at *
    obtain ⟨m0, m1, m2, m3, m4, m5, m6⟩ := cells6U hmX
    have hmlX := blk_lt hmX
    have hgqX : gq < X.heap.size := by obtain ⟨_, _, hcs⟩ := own_block_type hoX.hq (b := gq) rfl; exact blk_lt hcs
    have hgmq' : gq ≠ w.heap.size := fun e => hgmq e.symm
    obtain ⟨e1, e2⟩ := step_last { S with ps := ps, cr := S.cr - S.ms[i].rest, ms := S.ms.set i S.ms[i].back } ⟨0, 0, 0, S.ms[i].rest - S.ms[i].amt, -S.ms[i].rest, -S.ms[i].amt⟩ (X := X) hbX ⟨_, _, _, hoX⟩ hmX hB
    have E1 := hyd e1; have E2 := hyd e2
    clear e1 e2 hoX hmX hbX pX hoc hbc hmc z0 z2 z3 z4 z5 zf zf5 hpt3 hql3 hqB3 hqp3 kf kf' a2 k2' k3' k4' k5'
    go_still_tail 20, (by kernel_rfl)
    change wpList _ _ _ _ _ X.drew
    go_wp2_with fail
    rw [HO.out]
    exact mv_ret ⟨0, 0, 0, S.ms[i].rest - S.ms[i].amt, -S.ms[i].rest, -S.ms[i].amt⟩ 0 w.heap.size rfl rfl rfl E1.out E2.out
end Go.Proofs.YtbjjgnaojoaoiaaGreat
