/- Laws. -/
import Derived.Test.YtbjjgnaojoaoiaaGreatZZ29
import Derived.Test.YtbjjgnaojoaoiaaGreatZZ36
import Derived.Test.YtbjjgnaojoaoiaaGreatZZ38
import Derived.Test.YtbjjgnaojoaoiaaGreatZZT
namespace Go.Proofs.YtbjjgnaojoaoiaaGreat
open Go.RowKit Go
set_option linter.unusedVariables false
set_option linter.unusedSimpArgs false
set_option maxHeartbeats 6400000
set_option maxRecDepth 100000
theorem step_call1T {P : Program} {w : World} {ops : Array Oper} {o : Oper} {a : Act} {K : Act → World → Prop} {Q : Exit → Act → World → Prop} {E : Prop} (f : FuncId) (x : Operand) (s : TypeId)
  (ho : o.op = .call { callee := .value (.func f), args := #[x], argTypes := #[s] }) (u : Value) (hu : a.eval x = u)
  (hcf : ∀ w, (callFunc f #[u]).run P w = .ok (.enter f #[u]) w) (hw : Region.wanted o (yielded ops a.tmps) = true)
  (hc : Calls P f #[u] w fun e w' => ∃ u, e = .returned u ∧ K (a.put o.dst u) w') :
  if Region.wanted o (yielded ops a.tmps) = true then Oper.wp P o a w K Q else E := by
 rw [if_pos hw]
 unfold Oper.wp
 have hrun : (execOp a.eval o).run P w = .ok (.enter f #[u]) w := by
  have hf : a.eval (.func f) = .func (.func f) #[] #[] := rfl
  subst hu
  simp [execOp, ho, resolve, invoke, hf, Deferred.ofValue, hcf]
 rw [hrun, Oper.upon_enter]
 exact hc.mono (by rintro e w' ⟨u, rfl, h⟩; exact h)
theorem day_eq (g B : Nat) (S : Ac) (w : World) (h : OwnAt w B g S) : Calls Tryz.prog 77 #[.pointer (some ⟨g, 0, none⟩)] w fun e w' => e = .returned (.int .i64 S.day) ∧ w' = w := by
 obtain ⟨vp, vq, hg⟩ := h.cell
 obtain ⟨a0, a1, a2, a3, a4, a5⟩ := cells5U hg
 have hgl := blk_lt hg
 clear h hg
 go_enter Tryz.func77, Tryz.ntmps77
 go_wp2_with fail
 go_ret
 exact ⟨rfl, rfl⟩
theorem uday_enter (u : Value) (w : World) : (callFunc 77 #[u]).run Tryz.prog w = .ok (.enter 77 #[u]) w := by kernel_rfl
theorem ucredit_enter (u : Value) (w : World) : (callFunc 12 #[u]).run Tryz.prog w = .ok (.enter 12 #[u]) w := by kernel_rfl
theorem rsave_enter (u : Value) (w : World) : (callFunc 78 #[u]).run Tryz.prog w = .ok (.enter 78 #[u]) w := by kernel_rfl
theorem upayments_enter (u : Value) (w : World) : (callFunc 76 #[u]).run Tryz.prog w = .ok (.enter 76 #[u]) w := by kernel_rfl
theorem rsamepm_enter (u v : Value) (w : World) : (callFunc 75 #[u, v]).run Tryz.prog w = .ok (.enter 75 #[u, v]) w := by kernel_rfl
theorem alike_any (ga gr : Nat) (S : Ac) (w : World) (hO : OwnAt w 0 ga S) (hR : RefAt w 0 gr S) (hG : Good S) :
  Calls Tryz.prog 31 #[.pointer (some ⟨ga, 0, none⟩), .pointer (some ⟨gr, 0, none⟩)] w fun e w' => e = .returned (.bool true) ∧ Below w.heap.size w w' := by
 have HO := hyd hO; have HR := hyd hR; have HG := hyd hG
 have HIO := hyd (uitems_any ga 0 S w hO hG)
 have hlen : (openS S.ps).length ≤ 200 := (placesE_ok (openS_places hG.places)).1
 obtain ⟨its, hits⟩ : ∃ its, openS S.ps = its := ⟨_, rfl⟩
 unfold ItemsOut at HIO
 rw [hits] at HIO hlen
 obtain ⟨nn, hnn⟩ : ∃ nn, its.length = nn := ⟨_, rfl⟩
 rw [hnn] at HIO hlen
 have HITS := hyd hits; have HNN := hyd hnn
 clear hO hR hG hits hnn
 go_enter Tryz.func31, Tryz.ntmps31
 go_wp2_with fail
 refine HIO.out.mono ?_; rintro e w1 ⟨A1, c1, rfl, ho1, hb1⟩
 have HIR := hyd (ritems21_any gr 0 S w1 (HR.out.below hb1) HG.out)
 unfold ItemsOut at HIR
 rw [HITS.out, HNN.out] at HIR
 have HO1 := hyd ho1; have HB1 := hyd hb1
 clear ho1 hb1 HIO
 go_wp2_with fail
 refine HIR.out.mono ?_; rintro e w2 ⟨A2, c2, rfl, ho2, hb2⟩
 have HSM := hyd (sameItU_any A1 A2 its nn nn c1 c2 w2 (Rd.of_own (own_below HO1.out hb2)) (Rd.of_own ho2) (by omega))
 have HB2 := hyd (HB1.out.trans (hb2.mono HB1.out.size))
 clear ho2 hb2 HIR
 go_wp2_with fail
 refine HSM.out.mono ?_; rintro e w3 ⟨rfl, hb3⟩
 have HB3 := hyd (HB2.out.trans (hb3.mono HB2.out.size))
 clear hb3 HSM
 obtain ⟨vpo, vqo, qso, hvo⟩ := HO.out.below HB3.out
 obtain ⟨vpr, vqr, qsr, hvr⟩ := HR.out.below HB3.out
 obtain ⟨Aq, cq, rfl, _, _⟩ := hvr.rdq
 obtain ⟨nm, hnm⟩ : ∃ nm, S.ms.length = nm := ⟨_, rfl⟩
 have hn50 := HG.out.nm
 rw [hnm] at hn50
 have HPY := hyd (payments_any ga 0 S vpo vqo qso w3.drew (hvo.below (Below.refl _ _).drew) (by omega) (fun p hp => by have := (HG.out.pm p hp).len; omega))
 unfold PaymentsOf at HPY
 have HVR := hyd hvr; have HNM := hyd hnm
 have HSF : Hid (∀ W : World, Below w3.heap.size w3 W → W.cell? ⟨gr, 4, none⟩ = some (.slice Aq nm cq)) := hyd (fun W hb => by
  have h := (blk_cell (HVR.out.below hb).hg 4).trans rfl
  rw [← HNM.out]; exact h)
 have hgrl := blk_lt hvr.hg
 rw [hnm] at HPY
 clear hvo hvr hnm
 go_upto_region 2 with fail
 go_cut [6] from 12 to 18 (fun v6 wc => v6 = .bool true ∧ Below w.heap.size w wc)
 case first =>
  refine Code.wp_mono (noPan_le _) ?_
  refine wp_region_held_drew (S := fun w' => w'.cell? ⟨gr, 4, none⟩ = some (.slice Aq nm cq)) (by kernel_rfl) (HSF.out _ (Below.refl _ _).drew) (fun hHeld => ?_)
  refine tkH 0 (v := ?vi1) rfl ?hi1 ?_
  case hi1 => intro w hSw; (try dsimp only at hSw); go_simp; first | done | with_reducible rfl
  simp only [Act.put, lgA, lgB, lgC, lgD, lgE, lgF]
  refine tkH 2 (v := ?vi2) rfl ?hi2 ?_
  case hi2 => intro w hSw; (try dsimp only at hSw); go_simp; first | done | with_reducible rfl
  simp only [Act.put, lgA, lgB, lgC, lgD, lgE, lgF]
  refine tkH 3 (v := ?vi3) rfl ?hi3 ?_
  case hi3 => intro w hSw; (try dsimp only at hSw); go_simp; first | done | with_reducible rfl
  simp only [Act.put, lgA, lgB, lgC, lgD, lgE, lgF]
  refine tkH 4 (v := ?vi4) rfl ?hi4 ?_
  case hi4 => intro w hSw; (try dsimp only at hSw); go_simp; first | done | with_reducible rfl
  simp only [Act.put, lgA, lgB, lgC, lgD, lgE, lgF]
  refine tkH 5 (v := ?vi5) rfl ?hi5 ?_
  case hi5 => intro w hSw; (try dsimp only at hSw); go_simp; first | done | with_reducible rfl
  simp only [Act.put, lgA, lgB, lgC, lgD, lgE, lgF]
  refine wpAnyH_ready (rs := [1]) (by kernel_rfl) (by simp) ?_
  refine AllReadyH.cons rfl (fun K hK => ?_) AllReadyH.nil
  refine step_call1R rfl 76 (.tmp 12) 27 rfl (.pointer (some ⟨ga, 0, none⟩)) rfl (upayments_enter _) ?_
  refine HPY.out.mono ?_; rintro e w4 ⟨v4, qs4, rfl, hq4, hm4, hp4, hb4⟩; refine ⟨_, rfl, ?_⟩
  have hb4' : Below w3.heap.size w3 w4 := ((Below.refl _ _).drew).trans hb4
  obtain ⟨A4, c4, rfl, _⟩ := own_form hq4
  have hvr4 := HVR.out.below hb4'
  obtain ⟨Aq', cq', e', _, hrd⟩ := hvr4.rdq
  rw [HNM.out] at e' hrd
  injection e' with e1 _ e3; subst e1; subst e3
  have hlq : qs4.length = nm := by have h := congrArg List.length hm4; rw [List.length_map, HNM.out] at h; exact h
  have HSP := hyd (rsamepm_any A4 Aq qs4 qsr nm c4 cq w4 hlq (hvr4.hm.trans hm4.symm) (Rd.of_own hq4) hrd hp4 hvr4.parts (by omega) (fun q hq => by
   have h : q.p ∈ S.ms := by rw [← hm4]; exact List.mem_map.2 ⟨q, hq, rfl⟩
   have := (HG.out.pm _ h).len; omega))
  have HB4 := hyd hb4'
  clear hq4 hm4 hp4 hb4 hb4' hvr4 hrd hlq
  try go_simp
  refine hK.out _ _ (HSF.out _ HB4.out) (fun hHeld => ?_)
  clear hK K
  refine wpAnyH_ready (rs := [6]) (by kernel_rfl) (by simp) ?_
  refine AllReadyH.cons rfl (fun K hK => ?_) AllReadyH.nil
  refine step_call2R rfl 75 (.tmp 13) (.tmp 17) 81 81 rfl (.slice A4 nm c4) (.slice Aq nm cq) rfl rfl (rsamepm_enter _ _) ?_
  refine HSP.out.mono ?_; rintro e w5 ⟨rfl, hb5⟩; refine ⟨_, rfl, ?_⟩
  have HB5 := hyd (HB4.out.trans (hb5.mono HB4.out.size))
  clear hb5
  try go_simp
  refine hK.out _ _ (HSF.out _ HB5.out) (fun hHeld => ?_)
  clear hK K
  refine tkH 7 (v := ?vi6) rfl ?hi6 ?_
  case hi6 => intro w hSw; (try dsimp only at hSw); go_simp; first | done | with_reducible rfl
  simp only [Act.put, lgA, lgB, lgC, lgD, lgE, lgF]
  refine wpAnyH_done (by kernel_rfl) ?_ _
  clear hHeld
  simp only [noPan]
  go_wp2_with fail
  all_goals go_meet
  all_goals exact ⟨rfl, HB3.out.trans (HB5.out.mono HB3.out.size)⟩
 case rest =>
  obtain ⟨rfl, hbc⟩ := hcut
  have HBC := hyd hbc
  have HOC := hyd (HO.out.below hbc); have HRC := hyd (HR.out.below hbc)
  have HSF2 : Hid (∀ W : World, Below wc.heap.size wc W → W.cell? ⟨gr, 0, none⟩ = some (.int .i64 S.day) ∧ W.cell? ⟨gr, 2, none⟩ = some (.int .i64 S.cr)) := hyd (fun W hb => by
   obtain ⟨_, _, _, hv⟩ := HRC.out.below hb
   exact ⟨(blk_cell hv.hg 0).trans rfl, (blk_cell hv.hg 2).trans rfl⟩)
  have HDY := hyd (day_eq ga 0 S wc.drew (HOC.out.below (Below.refl _ _).drew))
  have HCD := hyd (credit_eq ga 0 S wc.drew (HOC.out.below (Below.refl _ _).drew))
  have HSV := hyd (save_any ga 0 S wc.drew (HOC.out.below (Below.refl _ _).drew) HG.out)
  have HRS := hyd (fun (W : World) (hb : Below wc.heap.size wc W) => rsave_any gr 0 S W (HRC.out.below hb) HG.out)
  have hsl := saveB_pos S
  obtain ⟨sb, hsb⟩ : ∃ sb, saveB S = sb := ⟨_, rfl⟩
  unfold BytesOut at HSV HRS
  rw [hsb] at HSV HRS hsl
  obtain ⟨nb, hnb⟩ : ∃ nb, sb.length = nb := ⟨_, rfl⟩
  rw [hnb] at HSV HRS hsl
  have HNB := hyd hnb
  obtain ⟨dy, hdy⟩ : ∃ dy, S.day = dy := ⟨_, rfl⟩
  obtain ⟨cr, hcr⟩ : ∃ cr, S.cr = cr := ⟨_, rfl⟩
  rw [hdy] at HSF2 HDY; rw [hcr] at HSF2 HCD
  have e1 : (dy == dy) = true := by simp
  have e2 : (cr == cr) = true := by simp
  have hgrl : gr < wc.heap.size := HRC.out.lt
  have HD0 : Hid (Below wc.heap.size wc wc.drew) := hyd (Below.refl _ _).drew
  clear hbc hsb hnb hdy hcr hgrl HPY HVR HNM HSF
  go_upto_region 3 with fail
  refine Code.wp_mono (noPan_le _) ?_
  refine wp_region_held_drew (S := fun w' => w'.cell? ⟨gr, 0, none⟩ = some (.int .i64 dy) ∧ w'.cell? ⟨gr, 2, none⟩ = some (.int .i64 cr)) (by kernel_rfl) (HSF2.out _ HD0.out) (fun hHeld => ?_)
  refine wpAnyH_ready (rs := [0]) (by kernel_rfl) (by simp) ?_
  refine AllReadyH.cons rfl (fun K hK => ?_) AllReadyH.nil
  go_simp
  refine hK.out _ _ (HSF2.out _ HD0.out) (fun hHeld => ?_)
  clear hK K
  refine wpAnyH_ready (rs := [1]) (by kernel_rfl) (by simp) ?_
  refine AllReadyH.cons rfl (fun K hK => ?_) AllReadyH.nil
  go_simp
  refine hK.out _ _ (HSF2.out _ HD0.out) (fun hHeld => ?_)
  clear hK K
  refine wpAnyH_ready (rs := [2]) (by kernel_rfl) (by simp) ?_
  refine AllReadyH.cons rfl (fun K hK => ?_) AllReadyH.nil
  go_simp
  refine hK.out _ _ (HSF2.out _ HD0.out) (fun hHeld => ?_)
  clear hK K
  refine wpAnyH_ready (rs := [3]) (by kernel_rfl) (by simp) ?_
  refine AllReadyH.cons rfl (fun K hK => ?_) AllReadyH.nil
  go_simp
  refine hK.out _ _ (HSF2.out _ HD0.out) (fun hHeld => ?_)
  clear hK K
  refine wpAnyH_ready (rs := [4]) (by kernel_rfl) (by simp) ?_
  refine AllReadyH.cons rfl (fun K hK => ?_) AllReadyH.nil
  go_simp
  refine hK.out _ _ (HSF2.out _ HD0.out) (fun hHeld => ?_)
  clear hK K
  refine tkH 5 (v := ?vi7) rfl ?hi7 ?_
  case hi7 => intro w hSw; (try dsimp only at hSw); go_simp; first | done | with_reducible rfl
  simp only [Act.put, lgA, lgB, lgC, lgD, lgE, lgF]
  refine tkH 7 (v := ?vi8) rfl ?hi8 ?_
  case hi8 => intro w hSw; (try dsimp only at hSw); go_simp; first | done | with_reducible rfl
  simp only [Act.put, lgA, lgB, lgC, lgD, lgE, lgF]
  refine tkH 8 (v := ?vi9) rfl ?hi9 ?_
  case hi9 => intro w hSw; (try dsimp only at hSw); go_simp; first | done | with_reducible rfl
  simp only [Act.put, lgA, lgB, lgC, lgD, lgE, lgF]
  refine tkH 9 (v := ?vi10) rfl ?hi10 ?_
  case hi10 => intro w hSw; (try dsimp only at hSw); go_simp; first | done | with_reducible rfl
  simp only [Act.put, lgA, lgB, lgC, lgD, lgE, lgF]
  refine tkH 10 (v := ?vi11) rfl ?hi11 ?_
  case hi11 => intro w hSw; (try dsimp only at hSw); go_simp; first | done | with_reducible rfl
  simp only [Act.put, lgA, lgB, lgC, lgD, lgE, lgF]
  refine wpAnyH_ready (rs := [6]) (by kernel_rfl) (by simp) ?_
  refine AllReadyH.cons rfl (fun K hK => ?_) AllReadyH.nil
  refine step_call1T 77 (.tmp 24) 27 rfl (.pointer (some ⟨ga, 0, none⟩)) rfl (uday_enter _) (by rfl) ?_
  refine HDY.out.mono ?_; rintro e w5 ⟨rfl, rfl⟩; refine ⟨_, rfl, ?_⟩
  try go_simp
  refine hK.out _ _ (HSF2.out _ HD0.out) (fun hHeld => ?_)
  clear hK K
  refine wpAnyH_ready (rs := [11]) (by kernel_rfl) (by simp) ?_
  refine AllReadyH.cons rfl (fun K hK => ?_) AllReadyH.nil
  go_simp
  refine hK.out _ _ (HSF2.out _ HD0.out) (fun hHeld => ?_)
  clear hK K
  refine wpAnyH_ready (rs := [12]) (by kernel_rfl) (by simp) ?_
  refine AllReadyH.cons rfl (fun K hK => ?_) AllReadyH.nil
  go_simp
  refine hK.out _ _ (HSF2.out _ HD0.out) (fun hHeld => ?_)
  clear hK K
  refine wpAnyH_ready (rs := [13]) (by kernel_rfl) (by simp) ?_
  refine AllReadyH.cons rfl (fun K hK => ?_) AllReadyH.nil
  go_simp
  refine hK.out _ _ (HSF2.out _ HD0.out) (fun hHeld => ?_)
  clear hK K
  refine tkH 14 (v := ?vi12) rfl ?hi12 ?_
  case hi12 => intro w hSw; (try dsimp only at hSw); go_simp; first | done | with_reducible rfl
  simp only [Act.put, lgA, lgB, lgC, lgD, lgE, lgF]
  refine tkH 16 (v := ?vi13) rfl ?hi13 ?_
  case hi13 => intro w hSw; (try dsimp only at hSw); go_simp; first | done | with_reducible rfl
  simp only [Act.put, lgA, lgB, lgC, lgD, lgE, lgF]
  refine tkH 17 (v := ?vi14) rfl ?hi14 ?_
  case hi14 => intro w hSw; (try dsimp only at hSw); go_simp; first | done | with_reducible rfl
  simp only [Act.put, lgA, lgB, lgC, lgD, lgE, lgF]
  refine tkH 18 (v := ?vi15) rfl ?hi15 ?_
  case hi15 => intro w hSw; (try dsimp only at hSw); go_simp; first | done | with_reducible rfl
  simp only [Act.put, lgA, lgB, lgC, lgD, lgE, lgF]
  refine tkH 19 (v := ?vi16) rfl ?hi16 ?_
  case hi16 => intro w hSw; (try dsimp only at hSw); go_simp; first | done | with_reducible rfl
  simp only [Act.put, lgA, lgB, lgC, lgD, lgE, lgF]
  refine wpAnyH_ready (rs := [15]) (by kernel_rfl) (by simp) ?_
  refine AllReadyH.cons rfl (fun K hK => ?_) AllReadyH.nil
  refine step_call1T 12 (.tmp 33) 27 rfl (.pointer (some ⟨ga, 0, none⟩)) rfl (ucredit_enter _) (by rfl) ?_
  refine HCD.out.mono ?_; rintro e w5 ⟨rfl, rfl⟩; refine ⟨_, rfl, ?_⟩
  try go_simp
  refine hK.out _ _ (HSF2.out _ HD0.out) (fun hHeld => ?_)
  clear hK K
  refine wpAnyH_ready (rs := [20]) (by kernel_rfl) (by simp) ?_
  refine AllReadyH.cons rfl (fun K hK => ?_) AllReadyH.nil
  go_simp
  refine hK.out _ _ (HSF2.out _ HD0.out) (fun hHeld => ?_)
  clear hK K
  refine wpAnyH_ready (rs := [21]) (by kernel_rfl) (by simp) ?_
  refine AllReadyH.cons rfl (fun K hK => ?_) AllReadyH.nil
  go_simp
  refine hK.out _ _ (HSF2.out _ HD0.out) (fun hHeld => ?_)
  clear hK K
  refine wpAnyH_ready (rs := [22]) (by kernel_rfl) (by simp) ?_
  refine AllReadyH.cons rfl (fun K hK => ?_) AllReadyH.nil
  go_simp
  refine hK.out _ _ (HSF2.out _ HD0.out) (fun hHeld => ?_)
  clear hK K
  refine tkH 23 (v := ?vi17) rfl ?hi17 ?_
  case hi17 => intro w hSw; (try dsimp only at hSw); go_simp; first | done | with_reducible rfl
  simp only [Act.put, lgA, lgB, lgC, lgD, lgE, lgF]
  refine tkH 26 (v := ?vi18) rfl ?hi18 ?_
  case hi18 => intro w hSw; (try dsimp only at hSw); go_simp; first | done | with_reducible rfl
  simp only [Act.put, lgA, lgB, lgC, lgD, lgE, lgF]
  refine wpAnyH_ready (rs := [24]) (by kernel_rfl) (by simp) ?_
  refine AllReadyH.cons rfl (fun K hK => ?_) AllReadyH.nil
  refine step_call1T 26 (.tmp 42) 27 rfl (.pointer (some ⟨ga, 0, none⟩)) rfl (save_enter _) (by rfl) ?_
  refine HSV.out.mono ?_; rintro e w5 ⟨A5, c5, rfl, hr5, hb5⟩; refine ⟨_, rfl, ?_⟩
  have HB5 := hyd (HD0.out.trans hb5)
  have hcv1 := conv_bytes hr5 HNB.out hsl
  have HR5 := hyd hr5
  clear hr5 hb5
  try go_simp
  refine hK.out _ _ (HSF2.out _ HB5.out) (fun hHeld => ?_)
  clear hK K
  refine wpAnyH_ready (rs := [25, 27]) (by kernel_rfl) (by simp) ?_
  refine AllReadyH.cons rfl (fun K hK => ?_) (AllReadyH.cons rfl (fun K hK => ?_) AllReadyH.nil)
  · go_simp
    refine hK.out _ _ (HSF2.out _ HB5.out) (fun hHeld => ?_)
    clear hK K
    refine wpAnyH_ready (rs := [27]) (by kernel_rfl) (by simp) ?_
    refine AllReadyH.cons rfl (fun K hK => ?_) AllReadyH.nil
    refine step_call1T 78 (.tmp 45) 71 rfl (.pointer (some ⟨gr, 0, none⟩)) rfl (rsave_enter _) (by rfl) ?_
    refine (HRS.out _ HB5.out).mono ?_; rintro e w6 ⟨A6, c6, rfl, hr6, hb6⟩; refine ⟨_, rfl, ?_⟩
    have hcv2 := conv_bytes hr6 HNB.out hsl
    have hcv3 := conv_bytes (own_below HR5.out hb6) HNB.out hsl
    have HB6 := hyd (HB5.out.trans (hb6.mono HB5.out.size))
    clear hr6 hb6
    try go_simp
    refine hK.out _ _ (HSF2.out _ HB6.out) (fun hHeld => ?_)
    clear hK K
    refine wpAnyH_ready (rs := [28]) (by kernel_rfl) (by simp) ?_
    refine AllReadyH.cons rfl (fun K hK => ?_) AllReadyH.nil
    go_simp
    refine hK.out _ _ (HSF2.out _ HB6.out) (fun hHeld => ?_)
    clear hK K
    refine wpAnyH_ready (rs := [29]) (by kernel_rfl) (by simp) ?_
    refine AllReadyH.cons rfl (fun K hK => ?_) AllReadyH.nil
    go_simp
    refine hK.out _ _ (HSF2.out _ HB6.out) (fun hHeld => ?_)
    clear hK K
    refine wpAnyH_ready (rs := [30]) (by kernel_rfl) (by simp) ?_
    refine AllReadyH.cons rfl (fun K hK => ?_) AllReadyH.nil
    go_simp
    refine hK.out _ _ (HSF2.out _ HB6.out) (fun hHeld => ?_)
    clear hK K
    refine wpAnyH_ready (rs := [31]) (by kernel_rfl) (by simp) ?_
    refine AllReadyH.cons rfl (fun K hK => ?_) AllReadyH.nil
    go_simp
    refine hK.out _ _ (HSF2.out _ HB6.out) (fun hHeld => ?_)
    clear hK K
    refine wpAnyH_done (by kernel_rfl) ?_ _
    simp only [noPan]
    clear hcv1 hcv2 hcv3 hHeld
    go_wp2_with fail
    all_goals go_ret
    all_goals exact ⟨rfl, HBC.out.trans (HB6.out.mono HBC.out.size)⟩
  · refine step_call1T 78 (.tmp 45) 71 rfl (.pointer (some ⟨gr, 0, none⟩)) rfl (rsave_enter _) (by rfl) ?_
    refine (HRS.out _ HB5.out).mono ?_; rintro e w6 ⟨A6, c6, rfl, hr6, hb6⟩; refine ⟨_, rfl, ?_⟩
    have hcv2 := conv_bytes hr6 HNB.out hsl
    have hcv3 := conv_bytes (own_below HR5.out hb6) HNB.out hsl
    have HB6 := hyd (HB5.out.trans (hb6.mono HB5.out.size))
    clear hr6 hb6
    try go_simp
    refine hK.out _ _ (HSF2.out _ HB6.out) (fun hHeld => ?_)
    clear hK K
    refine wpAnyH_ready (rs := [25, 28]) (by kernel_rfl) (by simp) ?_
    refine AllReadyH.cons rfl (fun K hK => ?_) (AllReadyH.cons rfl (fun K hK => ?_) AllReadyH.nil)
    · go_simp
      refine hK.out _ _ (HSF2.out _ HB6.out) (fun hHeld => ?_)
      clear hK K
      refine wpAnyH_ready (rs := [28]) (by kernel_rfl) (by simp) ?_
      refine AllReadyH.cons rfl (fun K hK => ?_) AllReadyH.nil
      go_simp
      refine hK.out _ _ (HSF2.out _ HB6.out) (fun hHeld => ?_)
      clear hK K
      refine wpAnyH_ready (rs := [29]) (by kernel_rfl) (by simp) ?_
      refine AllReadyH.cons rfl (fun K hK => ?_) AllReadyH.nil
      go_simp
      refine hK.out _ _ (HSF2.out _ HB6.out) (fun hHeld => ?_)
      clear hK K
      refine wpAnyH_ready (rs := [30]) (by kernel_rfl) (by simp) ?_
      refine AllReadyH.cons rfl (fun K hK => ?_) AllReadyH.nil
      go_simp
      refine hK.out _ _ (HSF2.out _ HB6.out) (fun hHeld => ?_)
      clear hK K
      refine wpAnyH_ready (rs := [31]) (by kernel_rfl) (by simp) ?_
      refine AllReadyH.cons rfl (fun K hK => ?_) AllReadyH.nil
      go_simp
      refine hK.out _ _ (HSF2.out _ HB6.out) (fun hHeld => ?_)
      clear hK K
      refine wpAnyH_done (by kernel_rfl) ?_ _
      simp only [noPan]
      clear hcv1 hcv2 hcv3 hHeld
      go_wp2_with fail
      all_goals go_ret
      all_goals exact ⟨rfl, HBC.out.trans (HB6.out.mono HBC.out.size)⟩
    · go_simp
      refine hK.out _ _ (HSF2.out _ HB6.out) (fun hHeld => ?_)
      clear hK K
      refine wpAnyH_ready (rs := [25]) (by kernel_rfl) (by simp) ?_
      refine AllReadyH.cons rfl (fun K hK => ?_) AllReadyH.nil
      go_simp
      refine hK.out _ _ (HSF2.out _ HB6.out) (fun hHeld => ?_)
      clear hK K
      refine wpAnyH_ready (rs := [29]) (by kernel_rfl) (by simp) ?_
      refine AllReadyH.cons rfl (fun K hK => ?_) AllReadyH.nil
      go_simp
      refine hK.out _ _ (HSF2.out _ HB6.out) (fun hHeld => ?_)
      clear hK K
      refine wpAnyH_ready (rs := [30]) (by kernel_rfl) (by simp) ?_
      refine AllReadyH.cons rfl (fun K hK => ?_) AllReadyH.nil
      go_simp
      refine hK.out _ _ (HSF2.out _ HB6.out) (fun hHeld => ?_)
      clear hK K
      refine wpAnyH_ready (rs := [31]) (by kernel_rfl) (by simp) ?_
      refine AllReadyH.cons rfl (fun K hK => ?_) AllReadyH.nil
      go_simp
      refine hK.out _ _ (HSF2.out _ HB6.out) (fun hHeld => ?_)
      clear hK K
      refine wpAnyH_done (by kernel_rfl) ?_ _
      simp only [noPan]
      clear hcv1 hcv2 hcv3 hHeld
      go_wp2_with fail
      all_goals go_ret
      all_goals exact ⟨rfl, HBC.out.trans (HB6.out.mono HBC.out.size)⟩
end Go.Proofs.YtbjjgnaojoaoiaaGreat
