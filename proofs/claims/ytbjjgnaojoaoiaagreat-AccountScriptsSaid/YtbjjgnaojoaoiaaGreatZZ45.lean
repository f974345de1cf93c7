/- Laws. -/
import Derived.Test.YtbjjgnaojoaoiaaGreatZZ43
import Derived.Test.YtbjjgnaojoaoiaaGreatZZT
namespace Go.Proofs.YtbjjgnaojoaoiaaGreat
open Go.RowKit Go
set_option linter.unusedVariables false
set_option linter.unusedSimpArgs false
set_option maxHeartbeats 25600000
set_option maxRecDepth 100000
theorem perRCs_take {bp : Int} (ps : List Per) (i : Nat) (h : i ≤ ps.length) : (perRCs bp ps).take (i * 13) = perRCs bp (ps.take i) := by
 have : perRCs bp ps = perRCs bp (ps.take i) ++ perRCs bp (ps.drop i) := by rw [← perRCs_app, List.take_append_drop]
 rw [this, List.take_append_of_le_length (by rw [perRCs_len, List.length_take]; omega), List.take_of_length_le (by rw [perRCs_len, List.length_take]; omega)]
theorem perRCs_drop {bp : Int} (ps : List Per) (i : Nat) (h : i ≤ ps.length) : (perRCs bp ps).drop (i * 13) = perRCs bp (ps.drop i) := by
 have : perRCs bp ps = perRCs bp (ps.take i) ++ perRCs bp (ps.drop i) := by rw [← perRCs_app, List.take_append_drop]
 have hl : (perRCs bp (ps.take i)).length = i * 13 := by rw [perRCs_len, List.length_take]; omega
 rw [this, ← hl, List.drop_left]
theorem Rd.dropR {w : World} {B s n k c : Nat} {A : Option Addr} {xs : List Value} (h : Rd w B s A n xs) (hk : k ≤ n) (hc : n ≤ c) : Rd w B s (if c = k then A else A.map (·.add (k * s))) (n - k) (xs.drop (k * s)) := by
 refine ⟨by rw [List.length_drop, h.1, Nat.sub_mul], fun h0 => ?_⟩
 obtain ⟨b, off, rfl, hb, hcl⟩ := h.2 (by omega)
 rw [if_neg (by omega)]
 refine ⟨b, off + k * s, ?_, hb, fun j hj => ?_⟩
 · show some ((⟨b, off, none⟩ : Addr).add (k * s)) = _
   unfold Addr.add; split
   · rename_i e; rw [e]; rfl
   · rfl
 · rw [List.getElem?_drop, Nat.add_assoc]
   refine hcl (k * s + j) ?_
   have : (n - k) * s + k * s = n * s := by rw [← Nat.add_mul]; congr 1; omega
   omega
theorem s15 {W : World} {ga gx gr : Nat} {v0 v1 v2 v3 v4 x0 x1 x2 x3 y0 y1 y2 y3 : Value} {t t' t'' : Nat} (h1 : W.heap[ga]? = some (.cells #[v0, v1, v2, v3, v4] t (0, 0))) (h2 : W.heap[gx]? = some (.cells #[x0, x1, x2, x3] t' (0, 0))) (h3 : W.heap[gr]? = some (.cells #[y0, y1, y2, y3] t'' (0, 0))) :
  W.cell? ⟨ga, 0, none⟩ = some v0 ∧ W.cell? ⟨ga, 1, none⟩ = some v1 ∧ W.cell? ⟨ga, 2, none⟩ = some v2 ∧ W.cell? ⟨ga, 3, none⟩ = some v3 ∧ W.cell? ⟨ga, 4, none⟩ = some v4 ∧ W.cell? ⟨gx, 1, none⟩ = some x1 ∧ W.cell? ⟨gx, 2, none⟩ = some x2 ∧ W.cell? ⟨gr, 0, none⟩ = some y0 ∧ W.cell? ⟨gr, 1, none⟩ = some y1 ∧ W.cell? ⟨gr, 2, none⟩ = some y2 ∧ W.cell? ⟨gr, 3, none⟩ = some y3 :=
 ⟨(blk_cell h1 0).trans rfl, (blk_cell h1 1).trans rfl, (blk_cell h1 2).trans rfl, (blk_cell h1 3).trans rfl, (blk_cell h1 4).trans rfl, (blk_cell h2 1).trans rfl, (blk_cell h2 2).trans rfl, (blk_cell h3 0).trans rfl, (blk_cell h3 1).trans rfl, (blk_cell h3 2).trans rfl, (blk_cell h3 3).trans rfl⟩
theorem ref_ins {Y : World} {B gb : Nat} {S : Ac} {vp vq v3 : Value} {qs : List PmE} {ps : List Per} (h : RefV Y B gb S vp vq qs) (ho : Y.ownsRow B 169 13 v3 ps.length (perRCs S.bp ps)) : RefV (Y.setCell ⟨gb, 3, none⟩ v3) B gb { S with ps := ps } v3 vq qs := by
 have p : Puts Y gb [(3, v3)] (Y.setCell ⟨gb, 3, none⟩ v3) := (Puts.start (Below.refl _ _)).set 3 v3
 refine ⟨p.near _ _ _ h.hg, h.hB, own_apart ho p (fun e => ?_), own_apart h.hq p (fun e => ?_), h.hm, fun q hq => (h.parts q hq).puts3 p h.hg (by decide)⟩
 · obtain ⟨_, cs, hcs⟩ := own_block_type ho e; exact ne_of_type' h.hg hcs (by decide) rfl
 · obtain ⟨_, cs, hcs⟩ := own_block_type h.hq e; exact ne_of_type' h.hg hcs (by decide) rfl
theorem grown_below {w W Y : World} {o : Obj} {B k : Nat} (hB : B ≤ w.heap.size) (hk : B ≤ k) (hW : w.alloc o = W) (hg : W.grownBy Y (some k)) : Below B w Y := by
 subst hW
 exact ((Below.refl B w).alloc hB o).grown hg (by simp; omega) (fun j hj => by injection hj with hj; omega)
theorem rnew_enter (a b c : Int) (w : World) : (callFunc 121 #[.int .i64 a, .int .i64 b, .int .i64 c]).run Tryz.prog w = .ok (.enter 121 #[.int .i64 a, .int .i64 b, .int .i64 c]) w := by kernel_rfl
theorem perRC_one (bp : Int) (p : Per) : ∀ u ∈ perRC bp p, u.oneCell' = true := by
 intro u hu
 simp [perRC] at hu
 rcases hu with rfl | rfl | rfl | rfl | rfl | rfl | rfl | rfl | rfl | rfl | rfl | rfl | rfl <;> rfl
theorem rfile_any (g : Nat) (S : Ac) (A : Option Addr) (n c : Nat) (s : Sch) (r : Ret) (w : World) (h : RefAt w 0 g S) (hG : Good S) (hn : s.bs.length = n) (hr : Rd w w.heap.size 2 A n (brCs s.bs)) :
  Calls Tryz.prog 67 #[.pointer (some ⟨g, 0, none⟩), schV A n c s, retV r] w (RDoesOf w g S (fileS S s r)) := by
 have hgl := h.lt
 have HV := hyd h
 obtain ⟨hb0, hr0, hm0, hz0⟩ := fileW0_facts w A n c s (r.onDay S.day)
 have hrd0 := (hr.below hb0).wider hb0.size
 have hv0 := h.below hb0
 obtain ⟨Ap, cp, Aq, cq, hg⟩ := h.cell
 obtain ⟨a0, a1, a2, a3, a4, a5⟩ := cells5U hg
 have n1 : g ≠ w.heap.size := by omega
 have n2 : g ≠ w.heap.size + 1 := by omega
 have n3 : g ≠ w.heap.size + 1 + 1 := by omega
 have n4 : g < w.heap.size + 1 := by omega
 have n5 : g < w.heap.size + 1 + 1 := by omega
 have HEG : Hid (∀ er : Int, er ≠ 0 → ∀ X : World, Below w.heap.size w X → RDoesOf w g S (S, Mv.zero, er) (.returned (mvR Mv.zero er)) (put6 X (w.heap.size + 1 + 1) Mv.zero)) := hyd (fun er he X hb => take_bad (S' := S) (m := Mv.zero) (gm := w.heap.size + 1 + 1) HV.out hb (by omega) he)
 have HB0 := hyd hb0; have HR0 := hyd hr0; have HM0 := hyd hm0; have HV0 := hyd hv0; have HG := hyd hG
 have HBI := hyd (rbill_any A n c s (r.onDay S.day) _ hn hrd0)
 obtain ⟨b, er, hbill⟩ : ∃ b er, billS s (r.onDay S.day) = (b, er) := ⟨_, _, rfl⟩
 have HF : Hid (fileS S s r = if er ≠ 0 then (S, Mv.zero, er) else if S.place r.per ≠ -1 then (S, Mv.zero, 5) else if 20 ≤ S.ps.length then (S, Mv.zero, 2) else file1 S (r.onDay S.day) b) := hyd (by unfold fileS; rw [hbill])
 have HER : Hid (er = 0 ∨ er = 1) := hyd (by have := bill_err s (r.onDay S.day); rw [hbill] at this; exact this)
 have HBB : Hid (er = 0 → retB (r.onDay S.day) = true ∧ (0 ≤ b.prin ∧ b.prin ≤ 1125899906842624) ∧ (0 ≤ b.pen ∧ b.pen ≤ b.prin) ∧ (0 ≤ b.exc ∧ b.exc ≤ 1125899906842624)) := hyd (fun h0 => by subst h0; exact bill_good hbill)
 rw [hbill] at HBI
 clear h hb0 hr0 hm0 hz0 hrd0 hv0 hr hG hbill hn a1 a2 a3 a4 hg
 go_enter Tryz.func67, Tryz.ntmps67
 go_wp2_with fail
 refine HBI.out.mono ?_; rintro e w1 ⟨rfl, hb1⟩
 have hr1 := blk_below HR0.out hb1 (blk_lt HR0.out)
 have hm1 := blk_below HM0.out hb1 (blk_lt HM0.out)
 have hv1 := HV0.out.below hb1
 have hbw1 : Below w.heap.size w w1 := HB0.out.trans (hb1.mono HB0.out.size)
 have hml1 := blk_lt hm1
 have HR1 := hyd hr1; have HM1 := hyd hm1; have HV1 := hyd hv1; have HBW1 := hyd hbw1
 clear hb1 HBI hr1 hm1 hv1 hbw1
 obtain ⟨b0, b1, b2, b3⟩ := b
 simp only [blR, blV]
 go_upto_region 3 with fail
 have hbx := bnewU w1 (.cells #[.int .i64 b0, .int .i64 b1, .int .i64 b2, .int .i64 b3] 85)
 have hlx := blk_new w1 (.cells #[.int .i64 b0, .int .i64 b1, .int .i64 b2, .int .i64 b3] 85) rfl
 have hrx := blk_below HR1.out hbx (blk_lt HR1.out)
 have hmx := blk_below HM1.out hbx (blk_lt HM1.out)
 have hvx := HV1.out.below hbx
 have hbwx := HBW1.out.trans (hbx.mono HBW1.out.size)
 obtain ⟨gx, hgx⟩ : ∃ gx, w1.heap.size = gx := ⟨_, rfl⟩
 rw [hgx] at hlx ⊢
 have q4 : gx ≠ g := by omega
 have q5 : w.heap.size ≤ gx := by omega
 generalize w1.alloc (.cells #[.int .i64 b0, .int .i64 b1, .int .i64 b2, .int .i64 b3] 85) = X at *
 clear a0 a5 hbx hml1 hgx
 obtain ⟨m0, m1, m2, m3, m4, m5, m6⟩ := cells6U hmx
 have hmlx := blk_lt hmx
 have HLX := hyd hlx; have HRX := hyd hrx; have HMX := hyd hmx; have HVX := hyd hvx; have HBX := hyd hbwx
 clear HR1 HM1 HV1 HBW1 HR0 HM0 HV0 HB0
 by_cases h0 : er = 0
 · subst h0
   have hbb := HBB.out rfl
   have HO1 := HF.out
   rw [if_neg (by simp)] at HO1
   have HPL := hyd (rplace_any g 0 S r.per X hvx (by have := HG.out.np; omega))
   have r1' : X.cell? ⟨w.heap.size + 1, 0, none⟩ = some (.int .i64 r.per) := (blk_cell hrx 0).trans rfl
   have HBB2 := hyd hbb; have HOO1 := hyd HO1
   have hpc := place_cases S r.per
   clear hlx hrx hmx hvx hbwx HBB HF HO1 hbb HER
   by_cases hpl : S.place r.per ≠ -1
   · have HO1 := HOO1.out
     rw [if_pos hpl] at HO1
     have t1 : decide (S.place r.per ≥ 0) = true := by
      rcases hpc with ⟨h1, _⟩ | ⟨i, _, h1, _⟩
      · exact absurd h1 hpl
      · rw [h1]; simp
     have HE := hyd (by have h := HEG.out 5 (by decide) X HBX.out; rw [← HO1] at h; exact h)
     have HM := hyd (put6_at HMX.out Mv.zero)
     clear hpl hpc HO1
     go_wp2_with fail
     refine HPL.out.mono ?_; rintro e w2 ⟨rfl, rfl⟩
     go_wp2_with fail
     exact mv_ret Mv.zero 5 (w.heap.size + 1 + 1) rfl rfl rfl HM.out HE.out
   · have HO1 := HOO1.out
     rw [if_neg hpl] at HO1
     have hpl' : S.place r.per = -1 := by omega
     have t1 : decide (S.place r.per ≥ 0) = false := by rw [hpl']; decide
     obtain ⟨Ap', cp', Aq', cq', hg'⟩ := HVX.out.cell
     obtain ⟨d0, d1, d2, d3, d4, d5⟩ := cells5U hg'
     have hglX := blk_lt hg'
     by_cases h4 : 20 ≤ S.ps.length
     · rw [if_pos h4] at HO1
       have h4' : decide ((S.ps.length : Int) ≥ 20) = true := by simp; omega
       have HE := hyd (by have h := HEG.out 2 (by decide) X HBX.out; rw [← HO1] at h; exact h)
       have HM := hyd (put6_at HMX.out Mv.zero)
       clear hpl hpc HO1 hg'
       go_wp2_with fail
       refine HPL.out.mono ?_; rintro e w2 ⟨rfl, rfl⟩
       go_wp2_with fail
       exact mv_ret Mv.zero 2 (w.heap.size + 1 + 1) rfl rfl rfl HM.out HE.out
     · rw [if_neg h4] at HO1
       have h4' : decide ((S.ps.length : Int) ≥ 20) = false := by simp; omega
       have HCP := hyd (rcopied_any g 0 S X HVX.out HG.out.small)
       have HGX := hyd hg'
       have HOO := hyd HO1
       clear hpl hpc HO1 hg'
       go_wp2_with fail
       refine HPL.out.mono ?_; rintro e w2 ⟨rfl, rfl⟩
       go_wp2_with fail
       refine HCP.out.mono ?_; rintro e X2 ⟨gb, rfl, hgbX, hbX2, vp, vq, qs, hv2⟩
       have hbill := HBB2.out
       have hrp := retB_yes hbill.1
       have hdue : 0 ≤ r.due ∧ r.due ≤ 3652058 := dayB_yes hrp.2.1
       have hrx2 := blk_below HRX.out hbX2 (blk_lt HRX.out)
       have hlx2 := blk_below HLX.out hbX2 (blk_lt HLX.out)
       have hgX2 := blk_below HGX.out hbX2 (blk_lt HGX.out)
       obtain ⟨np, hnp⟩ : ∃ np, S.ps.length = np := ⟨_, rfl⟩
       have hnp20 : np ≤ 20 := by omega
       have HNP := hyd hnp
       have HBX2 := hyd hbX2; have HV2 := hyd hv2; have HRX2 := hyd hrx2; have HLX2 := hyd hlx2; have HGX2 := hyd hgX2
       obtain ⟨at_, hat⟩ : ∃ at_, aheadP r.per S.ps = at_ := ⟨_, rfl⟩
       have hal := aheadP_le r.per S.ps
       rw [hat, hnp] at hal
       have HAT := hyd (aheadP_at HG.out.rise r.per)
       have HATE := hyd hat
       clear hbX2 hv2 hrx2 hlx2 hgX2 hnp hat hrp d0 d1 d2 d3 d4 d5 hglX r1' m0 m1 m2 m3 m4 m5 m6 HCP HPL
       go_upto_block 0 with fail
       go_cut [11] from 46 to 68 (fun v11 wc => v11 = .int .i64 at_ ∧ Below X2.heap.size X2 wc)
       case first =>
        go_wp2_with fail
        go_loopg [11] np (fun gh v11 wr => ∃ k : Nat, gh = np - k ∧ k ≤ at_ ∧ v11 = .int .i64 k ∧ Below X2.heap.size X2 wr)
        case atStart => exact ⟨0, rfl, by omega, rfl, Below.refl _ _⟩
        case round =>
         obtain ⟨k, hgk, hk, rfl, hbr⟩ := hrel
         have HGK := hyd hgk; have HBR := hyd hbr
         have hvr := HV2.out.below hbr
         have hrr := blk_below HRX2.out hbr (blk_lt HRX2.out)
         obtain ⟨Ar, cr_, rfl, _⟩ := own_form hvr.hp
         obtain ⟨b0', b1', b2', b3', b4', b5'⟩ := cells5U hvr.hg
         rw [HNP.out] at b3'
         have hgbr := blk_lt hvr.hg
         have r1 : wr.cell? ⟨w.heap.size + 1, 0, none⟩ = some (.int .i64 r.per) := (blk_cell hrr 0).trans rfl
         have hrl := blk_lt hrr
         by_cases hlt : k < np
         · have hkS : k < S.ps.length := by rw [HNP.out]; exact hlt
           obtain ⟨gp, cap, e1, _, _, hpr⟩ := hvr.per (i := k) hkS
           injection e1 with e1 _ _; subst e1
           have c0 := hpr.per0
           have hgpl := hpr.lt
           have i1 : (0 : Int) ≤ (k : Int) := by omega
           have i2 : (k : Int) < (np : Int) := by omega
           have t2 : decide ((k : Int) < (np : Int)) = true := by simpa using i2
           by_cases hper : S.ps[k].ret.per < r.per
           · have t3 : decide (S.ps[k].ret.per < r.per) = true := by simpa using hper
             have hk2 : k + 1 ≤ at_ := by
              rcases Nat.lt_or_ge k at_ with h | h
              · exact h
              · have := HAT.out.2 k hkS (by rw [HATE.out]; exact h); omega
             generalize S.ps[k].ret.per = x at *
             clear hgk hbr hvr hrr hpr hper
             go_wp2_with fail
             go_region
             go_wp2_with fail
             go_roundg (np - (k + 1))
             case measure => have := HGK.out; omega
             case rel => exact ⟨k + 1, rfl, hk2, by go_num, HBR.out.drew⟩
           · have t3 : decide (S.ps[k].ret.per < r.per) = false := by simpa using hper
             have hk2 : k = at_ := by
              rcases Nat.lt_or_ge k at_ with h | h
              · have := HAT.out.1 k hkS (by rw [HATE.out]; exact h); omega
              · omega
             have HK2 := hyd hk2
             generalize S.ps[k].ret.per = x at *
             clear hgk hbr hvr hrr hpr hper hk2
             go_wp2_with fail
             go_region
             go_wp2_with fail
             all_goals go_meet
             all_goals exact ⟨by rw [HK2.out], HBR.out.drew⟩
         · have t2 : decide ((k : Int) < (np : Int)) = false := by simp; omega
           have HK2 : Hid (k = at_) := hyd (by omega)
           clear hgk hbr hvr hrr
           go_wp2_with fail
           go_quiet (fail)
           go_wp2_with fail
           all_goals go_meet
           all_goals exact ⟨by rw [HK2.out], below_drewN HBR.out nq⟩
       case rest =>
        obtain ⟨rfl, hbc⟩ := hcut
        have hvc := HV2.out.below hbc
        have hrc := blk_below HRX2.out hbc (blk_lt HRX2.out)
        have hlc := blk_below HLX2.out hbc (blk_lt HLX2.out)
        have hgc := blk_below HGX2.out hbc (blk_lt HGX2.out)
        have r0 : wc.cell? ⟨w.heap.size + 1, 0, none⟩ = some (.int .i64 r.per) := (blk_cell hrc 0).trans rfl
        have r1 : wc.cell? ⟨w.heap.size + 1, 1, none⟩ = some (.int .i64 r.due) := (blk_cell hrc 1).trans rfl
        have l1 : wc.cell? ⟨gx, 1, none⟩ = some (.int .i64 b1) := (blk_cell hlc 1).trans rfl
        obtain ⟨a0, a1, a2, a3, a4, a5⟩ := cells5U hgc
        have hglc := blk_lt hgc; have hrlc := blk_lt hrc; have hxlc := blk_lt hlc
        have HNW := hyd (new_refR b1 S.bp r.due wc.drew (by simp [okP]; omega) (by have := HG.out.bp; simp [okR]; omega) (by simp [okD]; omega))
        have HBC : Hid (Below X.heap.size X wc) := hyd (HBX2.out.trans (hbc.mono HBX2.out.size))
        have HVC := hyd hvc; have HRC := hyd hrc; have HLC := hyd hlc
        clear hvc hrc hlc hgc hbc HBX2 HV2 HRX2 HLX2 HGX2
        go_upto_region 13 with fail
        go_cut [12] from 70 to 80 (fun v12 wd => ∃ gr, v12 = .pointer (some ⟨gr, 0, none⟩) ∧ Below wc.heap.size wc wd ∧ wd.heap[gr]? = some (.cells #[.int .i64 b1, .int .i64 S.bp, .int .i64 r.due, .int .i64 0] 167 (0, 0)))
        case first =>
         go_region_law (refine step_call3R rfl 121 (.tmp 71) (.tmp 75) (.tmp 77) 2 3 3 rfl (.int .i64 b1) (.int .i64 S.bp) (.int .i64 r.due) rfl rfl rfl (rnew_enter _ _ _) ?_
                        refine HNW.out.mono ?_; rintro e w5 ⟨gr, rfl, hgr, hgr2, hb5⟩; refine ⟨_, rfl, ?_⟩
                        have HB5 : Hid (Below wc.heap.size wc w5) := hyd (((Below.refl _ _).drew).trans hb5)
                        have HGR := hyd hgr2
                        clear hb5 hgr2 hgr)
         all_goals go_wp2_with fail
         all_goals go_meet
         all_goals exact ⟨gr, rfl, HB5.out, HGR.out⟩
        case rest =>
         obtain ⟨gr, rfl, hbd, hrun⟩ := hcut
         have hvd := HVC.out.below hbd
         have hrd := blk_below HRC.out hbd (blk_lt HRC.out)
         have hld := blk_below HLC.out hbd (blk_lt HLC.out)
         obtain ⟨Ap2, cp2, rfl, hcap, hrdp⟩ := hvd.rdp
         obtain ⟨i0, hi, hz0, hz1, hz2⟩ := info_parts info_perR
         obtain ⟨b0', b1', b2', b3', b4', b5'⟩ := cells5U hvd.hg
         rw [HNP.out] at b3' hcap hrdp
         have hgbd := blk_lt hvd.hg
         have HBD : Hid (Below X.heap.size X wc) := hyd (HBC.out.trans (hbd.mono HBC.out.size))
         have HVD := hyd hvd; have HRD := hyd hrd; have HLD := hyd hld; have HRUN := hyd hrun; have HRDP := hyd hrdp
         have i1 : (0 : Int) ≤ (at_ : Int) := by omega
         have i2 : (at_ : Int) ≤ (np : Int) := by omega
         clear hvd hrd hld hrun hbd hrdp HVC HRC HLC HBC HNW a0 a1 a2 a3 a4 a5 hglc hrlc hxlc r0 r1 l1
         have HMK : Hid ((wc.alloc (.cells #[] 169)).ownsRow wc.heap.size 169 13 (.slice (some ⟨wc.heap.size, 0, none⟩) 0 0) 0 []) := hyd (World.ownsRow_made (e := 169) (size := 13) wc #[] 0 (Nat.le_refl _) (by omega) rfl)
         have HR1 : Hid (Rd (wc.alloc (.cells #[] 169)) (wc.alloc (.cells #[] 169)).heap.size 13 Ap2 at_ (perRCs S.bp (S.ps.take at_))) := hyd (by
          have := (HRDP.out.take hal).below (bnewU wc (.cells #[] 169))
          rw [perRCs_take _ _ (by rw [HNP.out]; exact hal)] at this
          exact this.wider (bnewU wc _).size)
         go_upto_region 14 with fail
         have HBI0 : Hid (∀ (w1 : World), (wc.alloc (.cells #[] 169)).grownBy w1 (some wc.heap.size) → Below wc.heap.size wc w1) := hyd (fun w1 hg => grown_below (Nat.le_refl _) (Nat.le_refl _) rfl hg)
         go_wp2_with (at_builtin; (refine wpList_app rfl (.tmp 81) (.tmp 87) _ rfl wc.heap.size 169 i0 _ 13 104 Tryz.underlying121 hi hz0 hz1 hz2 rfl (by omega) (.slice (some ⟨wc.heap.size, 0, none⟩) 0 0) 0 [] rfl HMK.out (wc.alloc (.cells #[] 169)).heap.size Ap2 at_ cp2 (perRCs S.bp (S.ps.take at_)) rfl HR1.out (perRCs_one _ _) (by unfold maxLen; omega) (by omega) (by simp) ?_; intro v1 w1 hO hg hat; have HB1 := hyd (HBI0.out w1 hg); rw [Nat.zero_add, List.nil_append] at hO; obtain ⟨A1, k1, rfl, _⟩ := own_form hO; have HO1 := hyd hO; clear hO hg hat))
         go_upto_region 15 with fail
         have hv1 := HVD.out.below HB1.out
         have hr1 := blk_below HRD.out HB1.out (blk_lt HRD.out)
         have hl1 := blk_below HLD.out HB1.out (blk_lt HLD.out)
         have hn1 := blk_below HRUN.out HB1.out (blk_lt HRUN.out)
         have s0 := blk_cell hr1 0; have s1 := blk_cell hr1 1; have s2 := blk_cell hr1 2; have s3 := blk_cell hr1 3; have s4 := blk_cell hr1 4
         simp only [List.getElem?_toArray, List.getElem?_cons_succ, List.getElem?_cons_zero, Ret.onDay] at s0 s1 s2 s3 s4
         have l1 : w1.cell? ⟨gx, 1, none⟩ = some (.int .i64 b1) := (blk_cell hl1 1).trans rfl
         have l2 : w1.cell? ⟨gx, 2, none⟩ = some (.int .i64 b2) := (blk_cell hl1 2).trans rfl
         have u0 : w1.cell? ⟨gr, 0, none⟩ = some (.int .i64 b1) := (blk_cell hn1 0).trans rfl
         have u1 : w1.cell? ⟨gr, 1, none⟩ = some (.int .i64 S.bp) := (blk_cell hn1 1).trans rfl
         have u2 : w1.cell? ⟨gr, 2, none⟩ = some (.int .i64 r.due) := (blk_cell hn1 2).trans rfl
         have u3 : w1.cell? ⟨gr, 3, none⟩ = some (.int .i64 0) := (blk_cell hn1 3).trans rfl
         have HRB : Hid (w1.heap[w.heap.size + 1]? = some (.cells #[.int .i64 r.per, .int .i64 r.due, .int .i64 S.day, .int .i64 r.inc, .int .i64 r.wh] 37 (0, 0))) := hyd hr1
         have HLB := hyd hl1; have HNB := hyd hn1
         have HLT : Hid (w.heap.size + 1 < wc.heap.size ∧ gx < wc.heap.size ∧ gr < wc.heap.size) := hyd ⟨blk_lt HRD.out, blk_lt HLD.out, blk_lt HRUN.out⟩
         have hr1l := blk_lt hr1; have hl1l := blk_lt hl1; have hn1l := blk_lt hn1
         have hzw : wc.heap.size ≤ w1.heap.size := HB1.out.size
         have HV1 := hyd hv1
         clear hv1 hr1 hl1 hn1 b0' b1' b2' b3' b4' b5' HMK HR1
         go_cut [14] from 81 to 101 (fun v14 wd => ∃ A2 k2 wo, v14 = .slice A2 (at_ + 1) k2 ∧ Below X.heap.size X wo ∧ RefV wo X.heap.size gb S (.slice Ap2 S.ps.length cp2) vq qs ∧ Rd wo wo.heap.size 13 Ap2 np (perRCs S.bp S.ps) ∧ Below wo.heap.size wo wd ∧ wd.ownsRow wo.heap.size 169 13 (.slice A2 (at_ + 1) k2) (at_ + 1) (perRCs S.bp (S.ps.take at_) ++ perRC S.bp (newPer (r.onDay S.day) ⟨b0, b1, b2, b3⟩)))
         case first =>
          refine Code.wp_mono (noPan_le _) ?_
          refine wp_region_held_drew (S := fun w' => w'.cell? ⟨w.heap.size + 1, 0, none⟩ = some (.int .i64 r.per) ∧ w'.cell? ⟨w.heap.size + 1, 1, none⟩ = some (.int .i64 r.due) ∧ w'.cell? ⟨w.heap.size + 1, 2, none⟩ = some (.int .i64 S.day) ∧ w'.cell? ⟨w.heap.size + 1, 3, none⟩ = some (.int .i64 r.inc) ∧ w'.cell? ⟨w.heap.size + 1, 4, none⟩ = some (.int .i64 r.wh) ∧ w'.cell? ⟨gx, 1, none⟩ = some (.int .i64 b1) ∧ w'.cell? ⟨gx, 2, none⟩ = some (.int .i64 b2) ∧ w'.cell? ⟨gr, 0, none⟩ = some (.int .i64 b1) ∧ w'.cell? ⟨gr, 1, none⟩ = some (.int .i64 S.bp) ∧ w'.cell? ⟨gr, 2, none⟩ = some (.int .i64 r.due) ∧ w'.cell? ⟨gr, 3, none⟩ = some (.int .i64 0)) (by kernel_rfl) (s15 (W := w1.drew) HRB.out HLB.out HNB.out) (fun hHeld => ?_)
          refine tkH 0 (v := ?vf1) rfl ?hf1 ?_
          case hf1 => intro w hSw; (try dsimp only at hSw); go_simp; first | done | with_reducible rfl
          simp only [Act.put, lgA, lgB, lgC, lgD, lgE, lgF]
          refine tkH 1 (v := ?vf2) rfl ?hf2 ?_
          case hf2 => intro w hSw; (try dsimp only at hSw); go_simp; first | done | with_reducible rfl
          simp only [Act.put, lgA, lgB, lgC, lgD, lgE, lgF]
          refine tkH 2 (v := ?vf3) rfl ?hf3 ?_
          case hf3 => intro w hSw; (try dsimp only at hSw); go_simp; first | done | with_reducible rfl
          simp only [Act.put, lgA, lgB, lgC, lgD, lgE, lgF]
          refine tkH 3 (v := ?vf4) rfl ?hf4 ?_
          case hf4 => intro w hSw; (try dsimp only at hSw); go_simp; first | done | with_reducible rfl
          simp only [Act.put, lgA, lgB, lgC, lgD, lgE, lgF]
          refine tkH 4 (v := ?vf5) rfl ?hf5 ?_
          case hf5 => intro w hSw; (try dsimp only at hSw); go_simp; first | done | with_reducible rfl
          simp only [Act.put, lgA, lgB, lgC, lgD, lgE, lgF]
          refine tkH 5 (v := ?vf6) rfl ?hf6 ?_
          case hf6 => intro w hSw; (try dsimp only at hSw); go_simp; first | done | with_reducible rfl
          simp only [Act.put, lgA, lgB, lgC, lgD, lgE, lgF]
          refine tkH 6 (v := ?vf7) rfl ?hf7 ?_
          case hf7 => intro w hSw; (try dsimp only at hSw); go_simp; first | done | with_reducible rfl
          simp only [Act.put, lgA, lgB, lgC, lgD, lgE, lgF]
          refine tkH 7 (v := ?vf8) rfl ?hf8 ?_
          case hf8 => intro w hSw; (try dsimp only at hSw); go_simp; first | done | with_reducible rfl
          simp only [Act.put, lgA, lgB, lgC, lgD, lgE, lgF]
          refine wpAnyH_ready (rs := [8]) (by kernel_rfl) (by simp) ?_
          refine AllReadyH.cons rfl (fun K hK => ?_) AllReadyH.nil
          go_simp
          refine hK.out _ _ (s15 (W := w1.drew) HRB.out HLB.out HNB.out) (fun hHeld => ?_)
          clear hK K
          refine tkH 9 (v := ?vf9) rfl ?hf9 ?_
          case hf9 => intro w hSw; (try dsimp only at hSw); go_simp; first | done | with_reducible rfl
          simp only [Act.put, lgA, lgB, lgC, lgD, lgE, lgF]
          refine tkH 10 (v := ?vf10) rfl ?hf10 ?_
          case hf10 => intro w hSw; (try dsimp only at hSw); go_simp; first | done | with_reducible rfl
          simp only [Act.put, lgA, lgB, lgC, lgD, lgE, lgF]
          refine wpAnyH_ready (rs := [11]) (by kernel_rfl) (by simp) ?_
          refine AllReadyH.cons rfl (fun K hK => ?_) AllReadyH.nil
          go_simp
          refine hK.out _ _ (s15 (blk_alloc (w := w1.drew) HRB.out _) (blk_alloc (w := w1.drew) HLB.out _) (blk_alloc (w := w1.drew) HNB.out _)) (fun hHeld => ?_)
          clear hK K
          refine wpAnyH_ready (rs := [12]) (by kernel_rfl) (by simp) ?_
          refine AllReadyH.cons rfl (fun K hK => ?_) AllReadyH.nil
          refine step_app rfl (.tmp 89) (.tmp 100) 121 rfl wc.heap.size 169 i0 _ 13 104 Tryz.underlying121 hi hz0 hz1 hz2 rfl (by omega) (.slice A1 at_ k1) at_ (perRCs S.bp (S.ps.take at_)) rfl ((own_drew HO1.out).alloc _) _ (some ⟨w1.heap.size, 0, none⟩) 1 1 _ rfl (Rd.new (w := w1.drew) (cs := (perRC S.bp (newPer (r.onDay S.day) ⟨b0, b1, b2, b3⟩)).toArray) (t := 169) rfl rfl) (by simpa using perRC_one _ _) (by unfold maxLen; omega) (by omega) (by simp; omega) ?_
          intro v5 w5 hO hgr hat
          have hb5 : Below wc.heap.size w1 w5 := (((Below.refl wc.heap.size w1).drew).alloc hzw _).grown hgr (by simp; omega) (fun k hk => (own_block_type HO1.out hk).1)
          have HB5 := hyd hb5
          have HO5 := hyd hO
          obtain ⟨A5, c5, rfl, _⟩ := own_form hO
          refine hK.out _ _ (s15 ((hb5.block _ HLT.out.1).trans HRB.out) ((hb5.block _ HLT.out.2.1).trans HLB.out) ((hb5.block _ HLT.out.2.2).trans HNB.out)) (fun hHeld => ?_)
          clear hO hgr hat hK K hb5
          refine tkH 13 (v := ?vf11) rfl ?hf11 ?_
          case hf11 => intro w hSw; (try dsimp only at hSw); go_simp; first | done | with_reducible rfl
          simp only [Act.put, lgA, lgB, lgC, lgD, lgE, lgF]
          refine wpAnyH_done (by kernel_rfl) ?_ _
          clear hHeld
          simp only [noPan]
          go_wp2_with fail
          all_goals go_meet
          all_goals exact ⟨A5, c5, wc, rfl, HBD.out, HVD.out, HRDP.out, HB1.out.trans HB5.out, HO5.out⟩
         case rest =>
          obtain ⟨A2, k2, wo, rfl, hbo, hvo, hro, hbw, hown⟩ := hcut
          have hvw := hvo.below hbw
          obtain ⟨b0', b1', b2', b3', b4', b5'⟩ := cells5U hvw.hg
          rw [HNP.out] at b3'
          have hgbw := blk_lt hvw.hg
          have HBO := hyd hbo; have HVO := hyd hvo; have HBW := hyd hbw; have HOWN := hyd hown
          have HRO : Hid (Rd wc wo.heap.size 13 (if cp2 = at_ then Ap2 else Ap2.map (·.add (at_ * 13))) (np - at_) (perRCs S.bp (S.ps.drop at_))) := hyd (by
           have := (hro.below hbw).dropR hal hcap
           rwa [perRCs_drop _ _ (by rw [HNP.out]; exact hal)] at this)
          have hzo : wo.heap.size ≤ wc.heap.size := hbw.size
          have hle3 : at_ + 1 + (np - at_) ≤ 1000 := by omega
          clear hbo hvo hro hbw hown hvw l1 l2 u0 u1 u2 u3 s0 s1 s2 s3 s4 hr1l hl1l hn1l hzw
          go_upto_region 16 with fail
          go_cut [] from 102 to 112 (fun wd => ∃ A3 k3, RefV wd X.heap.size gb { S with ps := insP S.ps at_ (newPer (r.onDay S.day) ⟨b0, b1, b2, b3⟩) } (.slice A3 (at_ + 1 + (np - at_)) k3) vq qs ∧ Below X.heap.size X wd)
          case first =>
           go_wp2_with (at_builtin; (refine wpList_app rfl (.tmp 103) (.tmp 109) _ rfl wo.heap.size 169 i0 _ 13 104 Tryz.underlying121 hi hz0 hz1 hz2 rfl (by omega) (.slice A2 (at_ + 1) k2) (at_ + 1) _ rfl HOWN.out wo.heap.size _ (np - at_) (cp2 - at_) (perRCs S.bp (S.ps.drop at_)) rfl HRO.out (perRCs_one _ _) (by unfold maxLen; omega) (by omega) hzo ?_; intro v3 w3 hO hg hat; have hb3 : Below wo.heap.size wc w3 := (Below.refl _ _).grown hg hzo (fun k hk => (own_block_type HOWN.out hk).1); have hv3 := HVO.out.below (HBW.out.trans hb3); obtain ⟨e0, e1, e2, e3, e4, e5⟩ := cells5U hv3.hg; have hgb3 := blk_lt hv3.hg; obtain ⟨A3, k3, rfl, _⟩ := own_form hO; have HO3 := hyd hO; have HB3 : Hid (Below X.heap.size X w3) := hyd (HBO.out.trans ((HBW.out.trans hb3).mono HBO.out.size)); have HV3 := hyd hv3; clear hO hg hat hb3 hv3))
           all_goals
            have hplen : (insP S.ps at_ (newPer (r.onDay S.day) ⟨b0, b1, b2, b3⟩)).length = at_ + 1 + (np - at_) := by rw [insP_len _ _ _ (by rw [HNP.out]; exact hal), HNP.out]; omega
            have hins := ref_ins (ps := insP S.ps at_ (newPer (r.onDay S.day) ⟨b0, b1, b2, b3⟩)) (v3 := .slice A3 (at_ + 1 + (np - at_)) k3) HV3.out (by rw [hplen, perRCs_ins]; exact own_mono HO3.out HBO.out.size)
            have hbi : Below X.heap.size X (w3.setCell ⟨gb, 3, none⟩ (.slice A3 (at_ + 1 + (np - at_)) k3)) := HB3.out.setCell hgbX _
           all_goals go_wp2_with fail
           all_goals go_meet
           all_goals exact ⟨A3, k3, hins, hbi⟩
          case rest =>
           obtain ⟨A3, k3, hins, hbi⟩ := hcut
           have hplen : (insP S.ps at_ (newPer (r.onDay S.day) ⟨b0, b1, b2, b3⟩)).length = at_ + 1 + (np - at_) := by rw [insP_len _ _ _ (by rw [HNP.out]; exact hal), HNP.out]; omega
           go_upto_region 17 with fail
           obtain ⟨d0, hd0, hpk0⟩ := newPer_0 (day := S.day) (r := r.onDay S.day) (b := ⟨b0, b1, b2, b3⟩) HG.out.bp HBB2.out.1 HBB2.out.2.1 HBB2.out.2.2.1
           obtain ⟨se, more, q, hse⟩ : ∃ se more q, settleS S.day S.bp (newPer (r.onDay S.day) ⟨b0, b1, b2, b3⟩) = (se, more, q) := ⟨_, _, _, rfl⟩
           have hat0 : at_ ≤ S.ps.length := by rw [HNP.out]; exact hal
           have hli : at_ < (insP S.ps at_ (newPer (r.onDay S.day) ⟨b0, b1, b2, b3⟩)).length := by rw [hplen]; omega
           have hset := rsettleT_any gb X.heap.size at_ { S with ps := insP S.ps at_ (newPer (r.onDay S.day) ⟨b0, b1, b2, b3⟩) } _ _ qs d0 wc hins hbi.size hli (by show (insP S.ps at_ (newPer (r.onDay S.day) ⟨b0, b1, b2, b3⟩)).length ≤ 1000; rw [hplen]; omega) HG.out.day (by show PerOk d0 S.bp ((insP S.ps at_ (newPer (r.onDay S.day) ⟨b0, b1, b2, b3⟩))[at_]'hli); rw [insP_at hat0]; exact hpk0) hd0
           simp only [insP_at hat0, hse, insP_set hat0] at hset
           have HSET : Hid (Calls Tryz.prog 122 #[.pointer (some ⟨gb, 0, none⟩), .int .i64 (at_ : Int)] wc (fun e w' => ∃ nn ps', e = .returned (.tuple #[.int .i64 nn, .int .i64 se]) ∧ Below X.heap.size X w' ∧ RefV w' X.heap.size gb { S with ps := ps' } (.slice A3 (at_ + 1 + (np - at_)) k3) vq qs ∧ (se = 0 → nn = more ∧ ps' = insP S.ps at_ q))) := hyd (hset.mono (by
            rintro e w' ⟨hT, ⟨h0, rfl, hv⟩ | ⟨h0, rfl, hv⟩⟩
            · simp only at h0; subst h0; simp only [insP_set hat0] at hv; exact ⟨more, insP S.ps at_ q, rfl, hbi.trans hT.bel, hv, fun _ => ⟨rfl, rfl⟩⟩
            · exact ⟨0, insP S.ps at_ (newPer (r.onDay S.day) ⟨b0, b1, b2, b3⟩), rfl, hbi.trans hT.bel, hv, fun h => absurd h h0⟩))
           have HFT : Hid (fileS S s r = takeS S { S with ps := insP S.ps at_ q, cr := S.cr + b3 } ⟨b2, more, b1, 0, b3, 0⟩ se) := hyd (by
            have h := file1_take (S := S) (r := r.onDay S.day) (b := ⟨b0, b1, b2, b3⟩) HG.out.cr HBB2.out.2.2.2 hse
            have e : aheadP (r.onDay S.day).per S.ps = at_ := HATE.out
            rw [HOO.out, h, e])
           have HQK : Hid (se = 0 → PerOk S.day S.bp q) := hyd (fun h0 => by
            subst h0
            have := (newPer_ok HG.out (r := r.onDay S.day) (b := ⟨b0, b1, b2, b3⟩) HBB2.out.1 HBB2.out.2.1 HBB2.out.2.2.1 (by rw [hse])).1
            rw [hse] at this; exact this)
           clear hset hse hpk0 hins hbi hplen
           go_wp2_with fail
           refine HSET.out.mono ?_; rintro e w5 ⟨nn, ps', rfl, hb5, hv5, hse5⟩
           have hl5 := blk_below HLX.out hb5 (blk_lt HLX.out)
           have l1 : w5.cell? ⟨gx, 1, none⟩ = some (.int .i64 b1) := (blk_cell hl5 1).trans rfl
           have l2 : w5.cell? ⟨gx, 2, none⟩ = some (.int .i64 b2) := (blk_cell hl5 2).trans rfl
           have l3 : w5.cell? ⟨gx, 3, none⟩ = some (.int .i64 b3) := (blk_cell hl5 3).trans rfl
           have hl5l := blk_lt hl5
           obtain ⟨g0, g1, g2, g3, g4, g5⟩ := cells5U hv5.hg
           have hgb5 := blk_lt hv5.hg
           have hcw : IntKind.i64.wrap (S.cr + b3) = S.cr + b3 := IntWalk.i64_in _ (by have := HG.out.cr; have h9 : 0 ≤ b3 ∧ b3 ≤ 1125899906842624 := HBB2.out.2.2.2; omega)
           have hp6 := (Puts.start (b := gb) (Below.refl w5.heap.size w5)).set 2 (.int .i64 (S.cr + b3))
           have hv6 := (hv5.setCr (cr := S.cr + b3) hp6).below (Below.refl _ _).drew
           have hb6 : Below X.heap.size X (w5.setCell ⟨gb, 2, none⟩ (.int .i64 (S.cr + b3))).drew := (hb5.setCell hgbX _).drew
           have hgbgx : gx ≠ gb := by have := blk_lt HLX.out; omega
           have hl6 : (w5.setCell ⟨gb, 2, none⟩ (.int .i64 (S.cr + b3))).drew.heap[gx]? = some (.cells #[.int .i64 b0, .int .i64 b1, .int .i64 b2, .int .i64 b3] 85 (0, 0)) := (hp6.far gx hl5l hgbgx).trans hl5
           have hgne : g ≠ gb := by have := HVX.out.lt; omega
           have HTK := hyd (rtake_end2 g gb (w.heap.size + 1 + 1) S { S with ps := ps', cr := S.cr + b3 } ⟨b2, nn, b1, 0, b3, 0⟩ se w X _ HVX.out HBX.out hb6 (by omega) HMX.out (fun h0 => ⟨⟨_, _, _, hv6.mono (Nat.zero_le _)⟩, rfl, by
            show ps'.length ≤ 1000
            rw [(hse5 h0).2, insP_len _ _ _ hat0, HNP.out]; omega, fun p hp => by
            have hp' : p ∈ insP S.ps at_ q := by rw [← (hse5 h0).2]; exact hp
            rcases insP_mem.1 hp' with rfl | h
            · have h := HQK.out h0; exact ⟨h.b0.2, h.b1.2, h.b2.2⟩
            · have h := HG.out.per p h; exact ⟨h.b0.2, h.b1.2, h.b2.2⟩⟩) hgne hgl)
           have HFE : Hid (takeS S { S with ps := ps', cr := S.cr + b3 } ⟨b2, nn, b1, 0, b3, 0⟩ se = fileS S s r) := hyd (by
            rw [HFT.out]
            by_cases h0 : se = 0
            · rw [(hse5 h0).1, (hse5 h0).2]
            · unfold takeS; rw [if_pos h0, if_pos h0])
           clear hv5 hp6 hv6 hb6 hse5 hl5 hb5
           go_wp2_with fail
           go_region
           go_wp2_with fail
           refine HTK.out.mono ?_; rintro e w6 ⟨m', er', rfl, ⟨x0, x1, x2, x3, x4, x5, hmc⟩, hE, hM⟩
           obtain ⟨z0, z1, z2, z3, z4, z5, z6⟩ := cells6U hmc
           have hml := blk_lt hmc
           rw [HFE.out] at hE
           have HE := hyd hE; have HM := hyd hM
           clear hmc hE hM HTK
           go_wp2_with fail
           exact mv_ret m' er' (w.heap.size + 1 + 1) rfl rfl rfl HM.out HE.out
 · have HO1 := HF.out
   rw [if_pos h0] at HO1
   have he1 : er = 1 := by rcases HER.out with h | h; exact absurd h h0; exact h
   subst he1
   have HE := hyd (by have h := HEG.out 1 (by decide) X HBX.out; rw [← HO1] at h; exact h)
   have HM := hyd (put6_at HMX.out Mv.zero)
   clear hlx hrx hmx hvx hbwx HBB HF HO1 HER h0
   go_wp2_with fail
   exact mv_ret Mv.zero 1 (w.heap.size + 1 + 1) rfl rfl rfl HM.out HE.out
theorem rnew_yes (day bp : Int) (w : World) (hd : 0 ≤ day ∧ day ≤ 3652058) (hb : 0 ≤ bp ∧ bp ≤ 100000) : Calls Tryz.prog 29 #[.int .i64 day, .int .i64 bp] w fun e w' => e = .returned (.tuple #[.pointer (some ⟨w.heap.size, 0, none⟩), .int .i64 0]) ∧ RefAt w' w.heap.size w.heap.size (Ac.new day bp) ∧ Below w.heap.size w w' := by
 have h1 : okD day = true := by simpa [okD] using hd
 have h2 : okR bp = true := by simpa [okR] using hb
 clear hd hb
 go_enter Tryz.func29, Tryz.ntmps29
 go_wp2_with fail
 refine (isDay_refR day _).mono ?_; rintro e w1 ⟨rfl, rfl⟩
 rw [h1]
 go_wp2_with fail
 refine (isR_refR bp _).mono ?_; rintro e w1 ⟨rfl, rfl⟩
 rw [h2]
 go_wp2_with fail
 go_ret2
 exact ⟨rfl, ⟨.slice none 0 0, .slice none 0 0, [], blk_new _ _ rfl, Nat.le_refl _, World.ownsRow_nil _ _ _ _, World.ownsRow_nil _ _ _ _, rfl, fun q hq => by simp at hq⟩, bnewU _ _⟩
theorem rnew_no (day bp : Int) (w : World) (h : ¬ ((0 ≤ day ∧ day ≤ 3652058) ∧ 0 ≤ bp ∧ bp ≤ 100000)) : Calls Tryz.prog 29 #[.int .i64 day, .int .i64 bp] w fun e w' => e = .returned (.tuple #[.pointer none, .int .i64 1]) ∧ Below w.heap.size w w' := by
 have h3 : (okD day && okR bp) = false := by
  rw [Bool.and_eq_false_iff]
  by_cases hd : 0 ≤ day ∧ day ≤ 3652058
  · exact .inr (by simp only [okR, decide_eq_false_iff_not]; exact fun hb => h ⟨hd, hb⟩)
  · exact .inl (by simpa [okD] using hd)
 clear h
 obtain ⟨x, hx⟩ : ∃ x, okD day = x := ⟨_, rfl⟩
 obtain ⟨y, hy⟩ : ∃ y, okR bp = y := ⟨_, rfl⟩
 rw [hx, hy] at h3
 have HX := hyd hx; have HY := hyd hy
 clear hx hy
 cases x with
 | true =>
   have hy0 : y = false := by simpa using h3
   subst hy0
   clear h3
   go_enter Tryz.func29, Tryz.ntmps29
   go_wp2_with fail
   refine (isDay_refR day _).mono ?_; rintro e w1 ⟨rfl, rfl⟩
   rw [HX.out]
   go_wp2_with fail
   refine (isR_refR bp _).mono ?_; rintro e w1 ⟨rfl, rfl⟩
   rw [HY.out]
   go_wp2_with fail
   go_ret2
   exact ⟨rfl, Below.refl _ _⟩
 | false =>
   clear h3
   go_enter Tryz.func29, Tryz.ntmps29
   go_wp2_with fail
   refine (isDay_refR day _).mono ?_; rintro e w1 ⟨rfl, rfl⟩
   rw [HX.out]
   go_wp2_with fail
   refine (isR_refR bp _).mono ?_; rintro e w1 ⟨rfl, rfl⟩
   rw [HY.out]
   go_wp2_with fail
   all_goals go_ret2
   all_goals exact ⟨rfl, Below.refl _ _⟩
theorem RefV.grownO {w w' : World} {B gr g : Nat} {S : Ac} {vp vq : Value} {qs : List PmE} {cs : Array Value} {fr : Nat × Nat} (h : RefV w B gr S vp vq qs) (hg : w.grownBy w' (some g)) (hc : w.heap[g]? = some (.cells cs 83 fr)) : RefV w' B gr S vp vq qs := by
 have keep : ∀ {b : Nat} {cs' : Array Value} {t : Nat} {f' : Nat × Nat}, w.heap[b]? = some (.cells cs' t f') → t ≠ 83 → w'.heap[b]? = w.heap[b]? := fun hb ht => hg.block _ (blk_lt hb) (fun e => by
  have e' := Option.some.inj e
  subst e'
  exact ne_of_type' hb hc ht rfl)
 exact ⟨(keep h.hg (by decide)).trans h.hg, h.hB, own_keep h.hp fun b cs hb => keep hb (by decide), own_keep h.hq fun b cs hb => keep hb (by decide), h.hm, fun q hq => (h.parts q hq).keep fun b cs hb => keep hb (by decide)⟩
theorem OwnV.grownR {w w' : World} {B ga g : Nat} {S : Ac} {vp vq : Value} {qs : List PmE} {cs : Array Value} {fr : Nat × Nat} (h : OwnV w B ga S vp vq qs) (hg : w.grownBy w' (some g)) (hc : w.heap[g]? = some (.cells cs 123 fr)) : OwnV w' B ga S vp vq qs := by
 have keep : ∀ {b : Nat} {cs' : Array Value} {t : Nat} {f' : Nat × Nat}, w.heap[b]? = some (.cells cs' t f') → t ≠ 123 → w'.heap[b]? = w.heap[b]? := fun hb ht => hg.block _ (blk_lt hb) (fun e => by
  have e' := Option.some.inj e
  subst e'
  exact ne_of_type' hb hc ht rfl)
 exact ⟨(keep h.hg (by decide)).trans h.hg, h.hB, own_keep h.hp fun b cs hb => keep hb (by decide), own_keep h.hq fun b cs hb => keep hb (by decide), h.hm, fun q hq => (h.parts q hq).keep fun b cs hb => keep hb (by decide)⟩
theorem DoesOf.ref {w w' : World} {ga gr B : Nat} {S S2 : Ac} {r : Ac × Mv × Int} {e : Ending} (hd : DoesOf w ga S r e w') (ho : OwnAt w 0 ga S) (h : RefAt w B gr S2) : RefAt w' B gr S2 := by
 obtain ⟨vp, vq, hc⟩ := ho.cell
 obtain ⟨vp', vq', qs', h⟩ := h
 exact ⟨_, _, _, h.grownO hd.1 hc⟩
theorem RDoesOf.own {w w' : World} {ga gr B : Nat} {S S2 : Ac} {r : Ac × Mv × Int} {e : Ending} (hd : RDoesOf w gr S r e w') (h : RefAt w 0 gr S) (ho : OwnAt w B ga S2) : OwnAt w' B ga S2 := by
 obtain ⟨_, _, _, _, hc⟩ := h.cell
 obtain ⟨vp', vq', qs', ho⟩ := ho
 exact ⟨_, _, _, ho.grownR hd.1 hc⟩
theorem RDoesOf.good {w w' : World} {g : Nat} {S : Ac} {r : Ac × Mv × Int} {e : Ending} (h : RDoesOf w g S r e w') (h0 : r.2.2 = 0) : e = .returned (mvR r.2.1 0) ∧ RefAt w' 0 g r.1 := by
 rcases h.2 with ⟨_, e1, h2⟩ | ⟨h1, _⟩
 · exact ⟨e1, h2⟩
 · exact absurd h0 h1
end Go.Proofs.YtbjjgnaojoaoiaaGreat
