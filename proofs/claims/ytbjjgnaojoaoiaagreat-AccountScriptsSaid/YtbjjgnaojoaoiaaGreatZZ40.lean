/- Laws. -/
import Derived.Test.YtbjjgnaojoaoiaaGreatZZ38
import Derived.Test.YtbjjgnaojoaoiaaGreatZZ28
namespace Go.Proofs.YtbjjgnaojoaoiaaGreat
open Go.RowKit Go
set_option linter.unusedVariables false
set_option linter.unusedSimpArgs false
set_option maxHeartbeats 3000000
set_option maxRecDepth 100000
theorem isDay_refR (a : Int) (w : World) : Calls Tryz.prog 65 #[.int .i64 a] w fun e w' => e = .returned (.bool (okD a)) ∧ w = w' := by
 by_cases h : okD a = true
 · have h1 := okD_yes h
   have H := hyd h; clear h
   go_enter Tryz.func65, Tryz.ntmps65
   go_wp2
   go_ret
   exact ⟨ret_bool H.out.symm, rfl⟩
 · have h1 := okD_no h
   have H := hyd h; clear h
   rcases h1 with h1 | h1
   all_goals
    go_enter Tryz.func65, Tryz.ntmps65
    go_wp2
    all_goals go_ret
    all_goals have e := Bool.eq_false_iff.2 H.out
    all_goals exact ⟨ret_bool (by first | (rw [e]; done) | (rw [e]; simp; omega)), rfl⟩
theorem settle_more {day T bp : Int} {p q : Per} {more : Int} (h : PerOk day bp p) (hT : day ≤ T) (hs : settleS T bp p = (0, more, q)) : 0 ≤ more ∧ more ≤ 4611686018427387904 := by
 obtain ⟨n, er, he⟩ : ∃ n er, interestS T bp p = (n, er) := ⟨_, _, rfl⟩
 have h1 := settle_shape h hT he
 rw [hs] at h1
 by_cases h0 : er ≠ 0
 · rw [if_pos h0] at h1
   have := congrArg Prod.fst h1
   simp only at this
   omega
 · rw [if_neg h0] at h1
   have hil := interest_later h hT (by rw [he]; show er = 0; omega)
   have hib := interest_bd T bp p
   rw [he] at hil hib
   simp only at hil hib
   have ha := h.acc
   by_cases h3 : 4611686018427387904 - p.o1 < n - p.acc
   · rw [if_pos h3] at h1
     have := congrArg Prod.fst h1
     simp only at this
     omega
   · rw [if_neg h3] at h1
     have := congrArg (fun x => x.2.1) h1
     simp only at this
     omega
structure RAdvInv (X1 wr : World) (gb gm : Nat) (S : Ac) (T : Int) (vp vq : Value) (qs : List PmE) (k : Nat) (s : Int) (ps : List Per) : Prop where
 eq : advK T S.bp S.ps k = (0, s, ps)
 own : RefV wr X1.heap.size gb { S with day := T, ps := ps } vp vq qs
 len : ps.length = S.ps.length
 bel : Below X1.heap.size X1 wr
 m1 : wr.heap[gm]? = some (.cells #[.int .i64 0, .int .i64 s, .int .i64 0, .int .i64 0, .int .i64 0, .int .i64 0] 33 (0, 0))
theorem RAdvInv.step {X1 wr w2 : World} {gb gm k : Nat} {S : Ac} {T s more s2 : Int} {vp vq : Value} {qs : List PmE} {ps : List Per} {q : Per} (h : RAdvInv X1 wr gb gm S T vp vq qs k s ps) (hk : k < ps.length) (hgm : X1.heap.size ≤ gm)
  (hs : settleS T S.bp ps[k] = (0, more, q)) (ha : addS s more = (s2, 0)) (hT : Turn wr X1.heap.size vp w2) (hv : RefV w2 X1.heap.size gb { S with day := T, ps := ps.set k q } vp vq qs) :
  RAdvInv X1 (w2.setCell ⟨gm, 1, none⟩ (.int .i64 s2)) gb gm S T vp vq qs (k + 1) s2 (ps.set k q) := by
 have hgd : ps.getD k Per.zero = ps[k] := by rw [List.getD_eq_getElem?_getD, List.getElem?_eq_getElem hk]; rfl
 have hm2 := hT.boxR h.own h.m1 (by decide)
 have p3 : Puts w2 gm [(1, .int .i64 s2)] (w2.setCell ⟨gm, 1, none⟩ (.int .i64 s2)) := (Puts.start (Below.refl _ _)).set 1 _
 refine ⟨?_, hv.far p3 hm2 (by decide) (by decide) (by decide) (by decide), by simpa using h.len, (h.bel.trans hT.bel).setCell (p := ⟨gm, 1, none⟩) hgm _, p3.near _ _ _ hm2⟩
 rw [advK, h.eq, if_neg (by simp)]
 simp only [hgd, hs]
 rw [if_neg (by simp), ha, if_neg (by simp)]
theorem advK_no {T bp : Int} {ps : List Per} {k : Nat} {er : Int} (hk : k < ps.length) (h : (advK T bp ps (k + 1)).1 = er) (h0 : er ≠ 0) : (advK T bp ps ps.length).1 = er := by
 obtain ⟨n, hn⟩ : ∃ n, ps.length = (k + 1) + n := ⟨ps.length - (k + 1), by omega⟩
 rw [hn, advK_err (by rw [h]; exact h0), h]
theorem radvance_any (g : Nat) (S : Ac) (d : Int) (w : World) (h : RefAt w 0 g S) (hG : Good S) :
  Calls Tryz.prog 73 #[.pointer (some ⟨g, 0, none⟩), .int .i64 d] w (RDoesOf w g S (advanceS S d)) := by
 have HV := hyd h
 have hgl := h.lt
 have hb0 : Below w.heap.size w (w.alloc mvZ0) := bnewU _ _
 have HB0 := hyd hb0; have HM0 := hyd (blk_new w mvZ0 rfl)
 have HVX := hyd (h.below hb0)
 have hday := hG.day
 have HG := hyd hG
 have HEG : Hid (∀ er : Int, er ≠ 0 → ∀ X : World, Below w.heap.size w X → RDoesOf w g S (S, Mv.zero, er) (.returned (mvR Mv.zero er)) (put6 X w.heap.size Mv.zero)) := hyd (fun er he X hb => take_bad (S' := S) (m := Mv.zero) (gm := w.heap.size) HV.out hb (Nat.le_refl _) he)
 clear h hb0 hG
 unfold advanceS
 by_cases hd : 0 ≤ d ∧ d ≤ 36500
 · rw [if_neg (fun h => h hd)]
   have t1 : decide (d < 0) = false := by simp; omega
   have t2 : decide (d > 36500) = false := by simp; omega
   have hw1 : IntKind.i64.wrap (S.day + d) = S.day + d := IntWalk.i64_in _ (by omega)
   obtain ⟨T, hT⟩ : ∃ T, S.day + d = T := ⟨_, rfl⟩
   have HISD := hyd (fun W => isDay_refR T W)
   by_cases hm : 3652058 < S.day + d
   · rw [if_pos hm]
     have hok : okD T = false := by simp [okD]; omega
     rw [hok] at HISD
     rw [hT] at hw1
     clear hm hok hd
     go_enter Tryz.func73, Tryz.ntmps73
     go_upto_region 1 with fail
     generalize w.alloc mvZ0 = X at *
     obtain ⟨Ap, cp, Aq, cq, hg⟩ := HVX.out.cell
     obtain ⟨a0, a1, a2, a3, a4, a5⟩ := cells5U hg
     obtain ⟨z0, z1, z2, z3, z4, z5, z6⟩ := cells6U HM0.out
     have hmx := blk_lt HM0.out; have hgx := blk_lt hg
     have HE := hyd (HEG.out 1 (by decide) X HB0.out)
     have HM := hyd (put6_at HM0.out Mv.zero)
     clear hg
     go_wp2_with fail
     refine (HISD.out X).mono ?_; rintro e w' ⟨rfl, rfl⟩
     go_wp2_with fail
     exact mv_ret Mv.zero 1 w.heap.size rfl rfl rfl HM.out HE.out
   · rw [if_neg hm]
     have hok : okD T = true := by simp [okD]; omega
     rw [hok] at HISD
     rw [hT] at hw1
     have hTb : S.day ≤ T ∧ 0 ≤ T ∧ T ≤ 3652058 := by omega
     have HO1 : Hid (advance1 S d = if (advK T S.bp S.ps S.ps.length).1 ≠ 0 then (S, Mv.zero, (advK T S.bp S.ps S.ps.length).1) else ({ S with day := T, ps := (advK T S.bp S.ps S.ps.length).2.2 }, ⟨0, (advK T S.bp S.ps S.ps.length).2.1, 0, 0, 0, 0⟩, 0)) := hyd (by unfold advance1; rw [hT])
     obtain ⟨n, hn⟩ : ∃ n, S.ps.length = n := ⟨_, rfl⟩
     have HN := hyd hn
     have hn20 : n ≤ 20 := by have := HG.out.np; omega
     clear hm hok hd hn
     go_enter Tryz.func73, Tryz.ntmps73
     go_upto_region 1 with fail
     generalize w.alloc mvZ0 = X at *
     have HCP := hyd (rcopied_any g 0 S X HVX.out HG.out.small)
     obtain ⟨Ap, cp, Aq, cq, hg⟩ := HVX.out.cell
     have HGC := hyd hg
     obtain ⟨a0, a1, a2, a3, a4, a5⟩ := cells5U hg
     obtain ⟨z0, z1, z2, z3, z4, z5, z6⟩ := cells6U HM0.out
     have hmx := blk_lt HM0.out; have hgx := blk_lt hg
     clear hg
     go_wp2_with fail
     refine (HISD.out X).mono ?_; rintro e w' ⟨rfl, rfl⟩
     go_wp2_with fail
     refine HCP.out.mono ?_; rintro e X2 ⟨gb, rfl, hgbX, hbX2, vp, vq, qs, hv2⟩
     obtain ⟨Ap2, cp2, rfl, _⟩ := own_form hv2.hp
     obtain ⟨Aq2, cq2, rfl, _⟩ := own_form hv2.hq
     have hg2 := blk_below HGC.out hbX2 hgx
     obtain ⟨b0, b1, b2, b3, b4, b5⟩ := cells5U hv2.hg
     obtain ⟨a0, a1, a2, a3, a4, a5⟩ := cells5U hg2
     have hgx2 := blk_lt hg2; have hgb2 := blk_lt hv2.hg
     have hgne : g ≠ gb := by omega
     have hp3 := (Puts.start (b := gb) (Below.refl X2.heap.size X2)).set 0 (.int .i64 T)
     have hv3 := hv2.setDay (d := T) hp3
     have hb3 : Below X.heap.size X (X2.setCell ⟨gb, 0, none⟩ (.int .i64 T)) := hbX2.setCell hgbX _
     have hz3 : (X2.setCell ⟨gb, 0, none⟩ (.int .i64 T)).heap.size = X2.heap.size := World.size_setCell _ _ _
     have hv4 := hv3.below (bnewU (X2.setCell ⟨gb, 0, none⟩ (.int .i64 T)) mvZ0)
     have hb4 := hb3.trans ((bnewU (X2.setCell ⟨gb, 0, none⟩ (.int .i64 T)) mvZ0).mono hb3.size)
     have hm4 := blk_new (X2.setCell ⟨gb, 0, none⟩ (.int .i64 T)) mvZ0 rfl
     rw [hz3] at hm4
     have hgmB : X.heap.size ≤ X2.heap.size := hbX2.size
     have HI0 : Hid (RAdvInv X ((X2.setCell ⟨gb, 0, none⟩ (.int .i64 T)).alloc mvZ0) gb X2.heap.size S T (.slice Ap2 S.ps.length cp2) (.slice Aq2 S.ms.length cq2) qs 0 0 S.ps) := hyd ⟨rfl, hv4, rfl, hb4, hm4⟩
     clear hv2 hbX2 hg2 hp3 hv3 hb3 hz3 hv4 hb4 hm4 HCP b1 b2 b3 b4 a1 a2 a3 a4
     go_upto_region 9 with fail
     generalize (X2.setCell ⟨gb, 0, none⟩ (.int .i64 T)).alloc mvZ0 = X4 at *
     clear a0 a5 b0 b5 hgx2 hgb2 z0 z1 z2 z3 z4 z5 z6
     go_wp2_with fail
     go_loopg [9] n (fun gh v9 wr => ∃ (k : Nat) (s : Int) (ps : List Per), gh = n - k ∧ k ≤ n ∧ v9 = .int .i64 k ∧ RAdvInv X wr gb X2.heap.size S T (.slice Ap2 S.ps.length cp2) (.slice Aq2 S.ms.length cq2) qs k s ps)
     case atStart => exact ⟨0, 0, S.ps, rfl, by omega, rfl, HI0.out⟩
     case round =>
      obtain ⟨k, s, ps, hgk, hk, rfl, hinv⟩ := hrel
      have HGK := hyd hgk; have HI := hyd hinv
      obtain ⟨b0, b1, b2, b3, b4, b5⟩ := cells5U hinv.own.hg
      rw [HN.out] at b3
      have hgbr := blk_lt hinv.own.hg
      obtain ⟨y0, y1, y2, y3, y4, y5, y6⟩ := cells6U hinv.m1
      have hyl := blk_lt hinv.m1
      obtain ⟨hao, _⟩ := advK_ok (T := T) HG.out.per hTb.1 k (by rw [HN.out]; exact hk) (by rw [hinv.eq])
      have hnn := hao.nn
      rw [hinv.eq] at hnn
      simp only at hnn
      have hmr := blk_below HM0.out hinv.bel hmx
      obtain ⟨z0, z1, z2, z3, z4, z5, z6⟩ := cells6U hmr
      have hmrl := blk_lt hmr
      have hbwr : Below w.heap.size w wr := HB0.out.trans (hinv.bel.mono HB0.out.size)
      have HBWR := hyd hbwr
      have hXr : X.heap.size ≤ wr.heap.size := hinv.bel.size
      by_cases hlt : k < n
      · have hkS : k < S.ps.length := by rw [HN.out]; exact hlt
        have hkl : k < ps.length := by rw [hinv.len]; exact hkS
        have hpk : ps[k] = S.ps[k] := by
         have h1 := hao.rest k (Nat.le_refl _)
         rw [hinv.eq, List.getElem?_eq_getElem hkl, List.getElem?_eq_getElem hkS] at h1
         exact Option.some.inj h1
        have hpo : PerOk S.day S.bp ps[k] := by rw [hpk]; exact HG.out.per _ (List.getElem_mem hkS)
        have HST := hyd (rsettleT_any gb X.heap.size k { S with day := T, ps := ps } _ _ qs S.day wr hinv.own hXr hkl (by have := hinv.len; have := HN.out; show ps.length ≤ 1000; omega) hTb.2 hpo hTb.1)
        obtain ⟨se, more, q, hse⟩ : ∃ se more q, settleS T S.bp ps[k] = (se, more, q) := ⟨_, _, _, rfl⟩
        have hgd : ps.getD k Per.zero = ps[k] := by rw [List.getD_eq_getElem?_getD, List.getElem?_eq_getElem hkl]; rfl
        simp only [hse] at HST
        have i1 : (0 : Int) ≤ (k : Int) := by omega
        have i2 : (k : Int) < (n : Int) := by omega
        by_cases hs0 : se = 0
        · subst hs0
          have hmo := settle_more hpo hTb.1 hse
          have hadd := add_pos hnn hmo
          by_cases hov : s + more ≤ 4611686018427387904
          · rw [if_pos hov] at hadd
            have HSTP := hyd (fun w2 hT hv => RAdvInv.step (w2 := w2) (q := q) HI.out hkl hgmB hse hadd hT hv)
            have hw2 : IntKind.i64.wrap (4611686018427387904 - s) = 4611686018427387904 - s := IntWalk.i64_in _ (by omega)
            have hw3 : IntKind.i64.wrap (s + more) = s + more := IntWalk.i64_in _ (by omega)
            have t4 : decide (more > 4611686018427387904 - s) = false := by simp; omega
            clear hgk hinv hao hmr hbwr hpk hpo hse hgd hmo hadd hov b0 b1 b2 b4 b5 z0 z1 z2 z3 z4 z5 z6
            go_wp2_with fail
            refine HST.out.mono ?_; rintro e w2 ⟨hT2, ⟨_, rfl, hv2⟩ | ⟨h1, _⟩⟩
            · have hm2 := hT2.boxR HI.out.own HI.out.m1 (by decide)
              obtain ⟨y0, y1, y2, y3, y4, y5, y6⟩ := cells6U hm2
              have hyl2 := blk_lt hm2
              have HI2 := hyd (HSTP.out w2 hT2 hv2)
              clear hT2 hv2 hm2 HST
              go_wp2_with fail
              go_roundg (n - (k + 1))
              case measure => have := HGK.out; omega
              case rel => exact ⟨k + 1, _, _, rfl, by omega, by go_num, HI2.out⟩
            · exact absurd rfl h1
          · rw [if_neg hov] at hadd
            have hA : (advK T S.bp S.ps S.ps.length).1 = 2 := advK_no hkS (by
             rw [advK, HI.out.eq, if_neg (by simp)]
             simp only [hgd, hse]
             rw [if_neg (by simp), hadd, if_pos (by simp)]) (by decide)
            have HA : Hid (advance1 S d = (S, Mv.zero, 2)) := hyd (by rw [HO1.out, hA, if_pos (by decide)])
            have hw2 : IntKind.i64.wrap (4611686018427387904 - s) = 4611686018427387904 - s := IntWalk.i64_in _ (by omega)
            have t4 : decide (more > 4611686018427387904 - s) = true := by simp; omega
            clear hgk hinv hao hmr hbwr hpk hpo hse hgd hmo hadd hov hA b0 b1 b2 b4 b5
            go_wp2_with fail
            refine HST.out.mono ?_; rintro e w2 ⟨hT2, ⟨_, rfl, hv2⟩ | ⟨h1, _⟩⟩
            · have hm2 := hT2.boxR HI.out.own HI.out.m1 (by decide)
              obtain ⟨y0, y1, y2, y3, y4, y5, y6⟩ := cells6U hm2
              have hyl2 := blk_lt hm2
              have hb2 : Below w.heap.size w w2 := HBWR.out.trans (hT2.bel.mono HB0.out.size)
              have hmr2 := blk_below HM0.out (HI.out.bel.trans hT2.bel) hmx
              obtain ⟨z0, z1, z2, z3, z4, z5, z6⟩ := cells6U hmr2
              have hmrl2 := blk_lt hmr2
              have HE := hyd (HEG.out 2 (by decide) w2 hb2)
              have HM := hyd (put6_at hmr2 Mv.zero)
              clear hT2 hv2 hm2 HST hb2 hmr2
              go_wp2_with fail
              rw [HA.out]
              exact mv_ret Mv.zero 2 w.heap.size rfl rfl rfl HM.out HE.out
            · exact absurd rfl h1
        · have hA : (advK T S.bp S.ps S.ps.length).1 = se := advK_no hkS (by
            rw [advK, HI.out.eq, if_neg (by simp)]
            simp only [hgd, hse]
            rw [if_pos hs0]) hs0
          have HA : Hid (advance1 S d = (S, Mv.zero, se)) := hyd (by rw [HO1.out, hA, if_pos hs0])
          have hne : (se != 0) = true := by simpa using hs0
          have HS0 := hyd hs0
          clear hgk hinv hao hmr hbwr hpk hpo hse hgd hA hs0 b0 b1 b2 b4 b5
          go_wp2_with fail
          refine HST.out.mono ?_; rintro e w2 ⟨hT2, ⟨h1, _⟩ | ⟨_, rfl, hv2⟩⟩
          · exact absurd h1 HS0.out
          · have hb2 : Below w.heap.size w w2 := HBWR.out.trans (hT2.bel.mono HB0.out.size)
            have hmr2 := blk_below HM0.out (HI.out.bel.trans hT2.bel) hmx
            obtain ⟨z0, z1, z2, z3, z4, z5, z6⟩ := cells6U hmr2
            have hmrl2 := blk_lt hmr2
            have HE := hyd (HEG.out se HS0.out w2 hb2)
            have HM := hyd (put6_at hmr2 Mv.zero)
            clear hT2 hv2 HST hb2 hmr2
            go_wp2_with fail
            rw [HA.out]
            exact mv_ret Mv.zero se w.heap.size rfl rfl rfl HM.out HE.out
      · have hkn : k = n := by omega
        subst hkn
        have heq : advK T S.bp S.ps S.ps.length = (0, s, ps) := by rw [HN.out]; exact hinv.eq
        have HA : Hid (advance1 S d = ({ S with day := T, ps := ps }, ⟨0, s, 0, 0, 0, 0⟩, 0)) := hyd (by rw [HO1.out, heq]; simp)
        have hpok : ∀ p ∈ ps, PerOk T S.bp p := by
         obtain ⟨_, h2⟩ := advK_ok (T := T) HG.out.per hTb.1 S.ps.length (Nat.le_refl _) (by rw [heq])
         rw [heq] at h2
         intro p hp
         obtain ⟨j, hj, rfl⟩ := List.mem_iff_getElem.1 hp
         exact h2 j hj (by rw [← hinv.len]; exact hj)
        have HTK := hyd (rtake_end2 g gb w.heap.size S { S with day := T, ps := ps } ⟨0, s, 0, 0, 0, 0⟩ 0 w X wr HVX.out HB0.out hinv.bel (Nat.le_refl _) HM0.out (fun _ => ⟨⟨_, _, _, hinv.own.mono (Nat.zero_le _)⟩, rfl, by have := hinv.len; have := HG.out.np; show ps.length ≤ 1000; omega, PerOk.low hpok⟩) hgne hgl)
        have hcr := HG.out.cr
        have HCR : Hid (takeS S { S with day := T, ps := ps } ⟨0, s, 0, 0, 0, 0⟩ 0 = ({ S with day := T, ps := ps }, ⟨0, s, 0, 0, 0, 0⟩, 0)) := hyd (takeS_ok hcr.2)
        clear hgk hinv hao hmr hbwr heq hpok b0 b1 b2 b4 b5 z0 z1 z2 z3 z4 z5 z6 hcr
        go_wp2_with fail
        refine HTK.out.mono ?_; rintro e w6 ⟨m', er, rfl, ⟨x0, x1, x2, x3, x4, x5, hmc⟩, hE, hM⟩
        obtain ⟨m0, m1, m2, m3, m4, m5, m6⟩ := cells6U hmc
        have hml := blk_lt hmc
        rw [HCR.out, ← HA.out] at hE
        have HE := hyd hE; have HM := hyd hM
        clear hmc hE hM HTK
        go_wp2_with fail
        exact mv_ret m' er w.heap.size rfl rfl rfl HM.out HE.out
 · rw [if_pos hd]
   by_cases h1 : d < 0
   · have t1 : decide (d < 0) = true := by simpa using h1
     clear hd h1
     go_enter Tryz.func73, Tryz.ntmps73
     go_upto_region 1 with fail
     generalize w.alloc mvZ0 = X at *
     obtain ⟨z0, z1, z2, z3, z4, z5, z6⟩ := cells6U HM0.out
     have hmx := blk_lt HM0.out
     have HE := hyd (HEG.out 1 (by decide) X HB0.out)
     have HM := hyd (put6_at HM0.out Mv.zero)
     go_wp2_with fail
     exact mv_ret Mv.zero 1 w.heap.size rfl rfl rfl HM.out HE.out
   · have t1 : decide (d < 0) = false := by simpa using h1
     have t2 : decide (d > 36500) = true := by simp; omega
     clear hd h1
     go_enter Tryz.func73, Tryz.ntmps73
     go_upto_region 1 with fail
     generalize w.alloc mvZ0 = X at *
     obtain ⟨z0, z1, z2, z3, z4, z5, z6⟩ := cells6U HM0.out
     have hmx := blk_lt HM0.out
     have HE := hyd (HEG.out 1 (by decide) X HB0.out)
     have HM := hyd (put6_at HM0.out Mv.zero)
     go_wp2_with fail
     exact mv_ret Mv.zero 1 w.heap.size rfl rfl rfl HM.out HE.out
end Go.Proofs.YtbjjgnaojoaoiaaGreat
