/- Laws. -/
import Derived.Test.YtbjjgnaojoaoiaaGreatZZ13
import Derived.Test.YtbjjgnaojoaoiaaGreatZZ41
import Derived.Test.YtbjjgnaojoaoiaaGreatZZ26
namespace Go.Proofs.YtbjjgnaojoaoiaaGreat
open Go.RowKit Go
set_option linter.unusedVariables false
set_option linter.unusedSimpArgs false
set_option maxHeartbeats 3200000
set_option maxRecDepth 100000
theorem wp_veil {P : Program} {c : Code} {Q : Exit → Act → World → Prop} {a : Act} {w : World} (h : ∀ Qv : Exit → Act → World → Prop, Hid (∀ e a w, Q e a w → Qv e a w) → c.wp P Qv a w) : c.wp P Q a w := h Q fun _ _ _ h => h
theorem rbill_any (A : Option Addr) (n c : Nat) (s : Sch) (r : Ret) (w : World) (hn : s.bs.length = n) (hr : Rd w w.heap.size 2 A n (brCs s.bs)) :
  Calls Tryz.prog 118 #[schV A n c s, retV r] w fun e w' => e = .returned (blR (billS s r)) ∧ Below w.heap.size w w' := by
 have hbx := BillBox.start w A n c s r
 have HRT := hyd (rretright_any r (((w.alloc (schO A n c s)).alloc (retO r 37)).alloc (blO 0 0 0 0)))
 have HRD := hyd ((hr.below hbx.bel).wider hbx.bel.size)
 have hz0 : w.heap.size + 2 < (((w.alloc (schO A n c s)).alloc (retO r 37)).alloc (blO 0 0 0 0)).heap.size := by simp
 have HBX := hyd hbx
 clear hr hbx
 by_cases hrt : retB r = true
 · by_cases hos : okS s = true
   · have hok : (okS s && mny r.inc) = true := by rw [hos, (retB_yes hrt).2.2.2.1]; rfl
     have hok' : okS s = true ∧ mny r.inc = true := by simpa using hok
     have HOK := hyd (okS_yes hok'.1)
     have ht : taxS s r.inc = (taxV s r.inc, 0) := if_pos hok
     have HTX := hyd (fun wx h => rtax_any A n c s r.inc wx hn h)
     rw [ht] at HTX
     have HE : Hid (billS s r = (billV s r, 0)) := billS_yes HOK.out hrt
     have hw := mny_yes (retB_yes hrt).2.2.2.2
     have hd1 := dayB_yes (retB_yes hrt).2.1; have hd2 := dayB_yes (retB_yes hrt).2.2.1
     have htb := taxV_bd HOK.out hok'.2
     obtain ⟨t, htv⟩ : ∃ t, taxV s r.inc = t := ⟨_, rfl⟩
     obtain ⟨p, hpv⟩ : ∃ p, prinV s r = p := ⟨_, rfl⟩
     obtain ⟨x, hxv⟩ : ∃ x, max (r.wh - t) 0 = x := ⟨_, rfl⟩
     have hpt : p = max (t - r.wh) 0 := by rw [← hpv, prinV, htv]
     have HBV : Hid (billV s r = ⟨t, p, penV s p (lateI r), x⟩) := by show _ = _; rw [billV, htv, hpv, hxv]
     rw [htv] at HTX htb
     have hpb : 0 ≤ p ∧ p ≤ 1125899906842624 := by omega
     obtain ⟨D, hD⟩ : ∃ D : Nat, r.due = (D : Int) := ⟨r.due.toNat, by omega⟩
     obtain ⟨F, hF⟩ : ∃ F : Nat, r.filed = (F : Int) := ⟨r.filed.toNat, by omega⟩
     have hDb : D ≤ 3652058 := by omega
     have hFb : F ≤ 3652058 := by omega
     have HLI : Hid (lateI r = (lateD D F : Nat)) := by show _ = _; unfold lateI; rw [hD, hF]; rfl
     have HFW := hyd (fun wx => few_any D F wx hDb hFb)
     rw [← hD, ← hF] at HFW
     have HDF : Hid (r.due = (D : Int) ∧ r.filed = (F : Int)) := ⟨hD, hF⟩
     have HLZ : Hid (F ≤ D → lateD D F = 0) := hyd (fun h => if_pos h)
     clear hok hok' ht htv hpv hD hF
     go_enter Tryz.func118, Tryz.ntmps118
     refine wp_veil fun Qv HQV => ?_
     go_wp2_with fail
     generalize ((w.alloc (schO A n c s)).alloc (retO r 37)).alloc (blO 0 0 0 0) = W at *
     refine HRT.out.mono ?_; rintro e w1 ⟨rfl, hw1⟩
     have HB1 := hyd (HBX.out.up hw1)
     have HR1 := hyd ((HRD.out.below hw1).wider hw1.size)
     obtain ⟨r0, r1, r2, r3, r4⟩ := cells5B HB1.out.b1
     obtain ⟨s0, s1, s2, s3, s4, s5⟩ := cells6 HB1.out.b0
     have hz1 : w.heap.size + 2 < w1.heap.size := blk_lt HB1.out.b2
     rw [hrt]
     clear hw1 hrt
     go_wp2_with fail
     refine (HTX.out w1 HR1.out).mono ?_; rintro e w2 ⟨rfl, hw2⟩
     have HB2 := hyd (HB1.out.up hw2)
     clear r0 r1 r2 r3 r4 s0 s1 s2 s3 s4 s5
     obtain ⟨r0, r1, r2, r3, r4⟩ := cells5B HB2.out.b1
     have hz2 : w.heap.size + 2 < w2.heap.size := blk_lt HB2.out.b2
     clear hw2
     go_upto_region 5 with fail
     go_cut [9] from 31 to 42 (fun v9 wx => v9 = .pointer (some ⟨w2.heap.size, 0, none⟩) ∧ w2.alloc (blO t p 0 x) = wx)
     case first =>
      go_wp2_with fail
      all_goals go_meet
      all_goals exact ⟨rfl, alloc_blO _ (by omega) (by omega) (by omega) (by omega)⟩
     case rest =>
      obtain ⟨rfl, rfl⟩ := hcut
      have HB3 := hyd (HB2.out.up (below_new w2 (blO t p 0 x)))
      have hg3 := heap_alloc_new w2 (blO t p 0 x)
      have hz3 : w2.heap.size < (w2.alloc (blO t p 0 x)).heap.size := by simp
      obtain ⟨g, hg⟩ : ∃ g, g = w2.heap.size := ⟨_, rfl⟩
      rw [← hg] at hg3 hz3
      generalize w2.alloc (blO t p 0 x) = wr at *
      rw [← hg]
      have hgz : w.heap.size + 2 < g := by omega
      clear hg hxv hpt r0 r1 r2 r3 r4
      obtain ⟨r0, r1, r2, r3, r4⟩ := cells5B HB3.out.b1
      have HG3 := hyd hg3
      obtain ⟨q0, q1, q2, q3, q4⟩ := cells4B hg3
      obtain ⟨s0, s1, s2, s3, s4, s5⟩ := cells6 HB3.out.b0
      obtain ⟨o0, o1, o2, o3, o4⟩ := cells4B HB3.out.b2
      have hz3' : w.heap.size + 2 < wr.heap.size := by omega
      clear hg3
      obtain ⟨L, hL⟩ : ∃ L, lateD D F = L := ⟨_, rfl⟩
      rw [hL] at HLI HFW HLZ
      clear hL
      by_cases hp0 : 0 < p
      · by_cases hfd : D < F
        · have hfd' : r.due < r.filed := by have := HDF.out; omega
          obtain ⟨K, hK⟩ : ∃ K, min L 61 = K := ⟨_, rfl⟩
          rw [hK] at HFW
          have HKL := hyd hK
          have hKb : K ≤ 61 := by omega
          clear hK
          go_wp2_with fail
          refine (HFW.out wr).mono ?_; rintro e w' ⟨rfl, rfl⟩
          have hKm : ¬ (61 : Int) < (K : Int) := by omega
          by_cases hK0 : 0 < K
          · have hls := mny_yes HOK.out.2.2.2.2.2.2.2
            have hLK : min (L : Int) s.most = min (K : Int) s.most := by have := HKL.out; have := HOK.out.2.2.1; omega
            have hrb := rate_bd HOK.out (show (0 : Int) ≤ (L : Int) by omega)
            have hpp := pen_prod HOK.out hpb (show (0 : Int) ≤ (L : Int) by omega)
            rw [hLK] at hrb hpp
            obtain ⟨X, hX⟩ : ∃ X, s.lbp * min (K : Int) s.most = X := ⟨_, rfl⟩
            rw [hX] at hrb hpp
            obtain ⟨N, hN⟩ : ∃ N, p * X / 10000 = N := ⟨_, rfl⟩
            obtain ⟨R, hR⟩ : ∃ R, p * X % 10000 = R := ⟨_, rfl⟩
            have hNb : 0 ≤ N ∧ N ≤ 67553994410557440 := by omega
            have HP : Hid (penV s p (lateI r) = min (max N s.least) p) := by
             show _ = _; rw [HLI.out, penV, if_pos ⟨hp0, by have := HKL.out; omega⟩, hLK, hX, hN]
            have HMB : Hid (0 ≤ p * X ∧ p * X < big) := ⟨hpp.1, by unfold big; omega⟩
            have HWM : Hid (wz (false != false) (p * X) = p * X) := rfl
            have HOA := hyd (fun wx => of_nat2 p wx hpb.1 (by omega))
            have HOX := hyd (fun wx => of_nat2 X wx hrb.1 (by omega))
            have HMU := hyd (fun wx => wmul_any false false p X wx ⟨hpb.1, by omega⟩ ⟨hrb.1, by omega⟩)
            have HDV := hyd (fun wx => wdiv_any (false != false) (p * X) 10000 wx HMB.out.1 HMB.out.2 (by omega) (by omega))
            have HQD := hyd hN; have HRD := hyd hR
            have HRD2 : Hid (wz false (p * X) % 10000 = R) := hR
            have HQD2 : Hid (wz false (p * X) / 10000 = N) := hN
            have hmin : min (K : Int) 61 = (K : Int) := by omega
            have hK0' : (0 : Int) < (K : Int) := by omega
            clear hpp hN hR hLK
            have hsX : IntKind.i64.wrap (s.lbp * min (K : Int) s.most) = X := by rw [IntWalk.i64_in _ (by rw [hX]; omega)]; exact hX
            clear hX
            go_upto_region 10 with fail
            go_cut [11, 12] from 61 to 76 (fun v11 v12 wx => WideAtE N R wr v11 v12 wx)
            case first =>
             have hP3 : g < wr.heap.size ∧ w.heap.size < wr.heap.size ∧ w.heap.size < wr.heap.size := ⟨hz3, by omega, by omega⟩
             have xw : wr.cell? ⟨g, 1, none⟩ = some (.int .i64 p) ∧ wr.cell? ⟨w.heap.size, 3, none⟩ = some (.int .i64 s.lbp) ∧ wr.cell? ⟨w.heap.size, 4, none⟩ = some (.int .i64 s.most) := ⟨q1, s3, s4⟩
             obtain ⟨VA, hVA⟩ : ∃ V, wd false p = V := ⟨_, rfl⟩
             obtain ⟨VX, hVX⟩ : ∃ V, wd false X = V := ⟨_, rfl⟩
             obtain ⟨VM, hVM⟩ : ∃ V, wd (false != false) (p * X) = V := ⟨_, rfl⟩
             rw [hVA] at HOA; rw [hVX] at HOX; rw [hVA, hVX, hVM] at HMU; rw [hVM] at HDV
             clear hVA hVX hVM r0 r1 r2 r3 r4 q0 q1 q2 q3 q4 s0 s1 s2 s3 s4 s5 o0 o1 o2 o3 o4
             by_cases hKm2 : (K : Int) ≤ s.most
             · have hsX2 : IntKind.i64.wrap (s.lbp * (K : Int)) = X := by rw [Int.min_eq_left hKm2] at hsX; exact hsX
               go_region_held3 (fun w' => w'.cell? ⟨g, 1, none⟩ = some (.int .i64 p) ∧ w'.cell? ⟨w.heap.size, 3, none⟩ = some (.int .i64 s.lbp) ∧ w'.cell? ⟨w.heap.size, 4, none⟩ = some (.int .i64 s.most))
                ((first | (with_reducible exact set5_3E xw5 hP3 (by omega) _ _ _ _ _) | (with_reducible exact drew3E (set5_3E xw5 hP3 (by omega) _ _ _ _ _)) | (with_reducible exact set5_3E (alloc3E xw5 _) hP3 (by omega) _ _ _ _ _) | (with_reducible exact drew3E (set5_3E (alloc3E xw5 _) hP3 (by omega) _ _ _ _ _)) | (with_reducible exact xw5) | (with_reducible exact drew3E xw5) | (with_reducible exact alloc3E xw5 _) | (with_reducible exact drew3E (alloc3E xw5 _)) | (with_reducible exact alloc3E (drew3E xw5) _) | (with_reducible exact xw4) | (with_reducible exact drew3E xw4) | (with_reducible exact alloc3E xw4 _) | (with_reducible exact drew3E (alloc3E xw4 _)) | (with_reducible exact alloc3E (drew3E xw4) _) | (with_reducible exact xw3) | (with_reducible exact drew3E xw3) | (with_reducible exact alloc3E xw3 _) | (with_reducible exact drew3E (alloc3E xw3 _)) | (with_reducible exact alloc3E (drew3E xw3) _) | (with_reducible exact xw1) | (with_reducible exact drew3E xw1) | (with_reducible exact alloc3E xw1 _) | (with_reducible exact drew3E (alloc3E xw1 _)) | (with_reducible exact alloc3E (drew3E xw1) _) | (with_reducible exact xw) | (with_reducible exact drew3E xw) | (with_reducible exact alloc3E xw _) | (with_reducible exact drew3E (alloc3E xw _)) | (with_reducible exact alloc3E (drew3E xw) _) | exact xw5 | exact alloc3E xw5 _ | exact set5_3E xw5 hP3 (by omega) _ _ _ _ _ | exact xw4 | exact alloc3E xw4 _ | exact xw3 | exact alloc3E xw3 _ | exact xw1 | exact alloc3E xw1 _ | exact xw | exact alloc3E xw _))
                ((first
                | (go_at_call 16; first
                    | ((with_reducible refine (HOA.out _).mono ?_); rintro e w1 ⟨rfl, hw1⟩; have xw1 : w1.cell? ⟨g, 1, none⟩ = some (.int .i64 p) ∧ w1.cell? ⟨w.heap.size, 3, none⟩ = some (.int .i64 s.lbp) ∧ w1.cell? ⟨w.heap.size, 4, none⟩ = some (.int .i64 s.most) := (by first | (with_reducible exact keep3E xw hw1) | (with_reducible exact keep3E (drew3E xw) hw1) | (with_reducible exact keep3E (alloc3E xw _) hw1) | (with_reducible exact keep3E (drew3E (alloc3E xw _)) hw1) | (with_reducible exact keep3E (alloc3E (drew3E xw) _) hw1) | exact keep3E xw hw1 | exact keep3E (alloc3E xw _) hw1); have hz1 := hw1.size; (try simp only [World.size_alloc, World.size_drew, size_drewN, World.size_setCell, Nat.add_one_le_iff] at hz1); (try have hy10 : wr.heap.size < w1.heap.size := by omega); (try have hy13 : w3.heap.size < w1.heap.size := by omega); (try have hy14 : w4.heap.size < w1.heap.size := by omega); (first | (have HK1 := hyd (new_belowE (P := wr) hw1)) | (have HK1 := hyd (new_belowdE (P := wr) hw1)) | skip); have HB1 : Hid (Below wr.heap.size wr w1) := hyd (by first | (with_reducible exact hw1) | (with_reducible exact bel_dE hw1) | (with_reducible exact bel_aE hw1) | (with_reducible exact bel_aE (bel_dE hw1)) | (with_reducible exact bel_dE (bel_aE hw1)) | exact hw1 | exact bel_dE hw1 | exact bel_aE hw1); clear hw1)
                    | ((with_reducible refine (HOX.out _).mono ?_); rintro e w3 ⟨rfl, hw3⟩; have xw3 : w3.cell? ⟨g, 1, none⟩ = some (.int .i64 p) ∧ w3.cell? ⟨w.heap.size, 3, none⟩ = some (.int .i64 s.lbp) ∧ w3.cell? ⟨w.heap.size, 4, none⟩ = some (.int .i64 s.most) := (by first | (with_reducible exact keep3E xw1 hw3) | (with_reducible exact keep3E (drew3E xw1) hw3) | (with_reducible exact keep3E (alloc3E xw1 _) hw3) | (with_reducible exact keep3E (drew3E (alloc3E xw1 _)) hw3) | (with_reducible exact keep3E (alloc3E (drew3E xw1) _) hw3) | exact keep3E xw1 hw3 | exact keep3E (alloc3E xw1 _) hw3); have hz3 := hw3.size; (try simp only [World.size_alloc, World.size_drew, size_drewN, World.size_setCell, Nat.add_one_le_iff] at hz3); (try have hy30 : wr.heap.size < w3.heap.size := by omega); (try have hy31 : w1.heap.size < w3.heap.size := by omega); (try have hy34 : w4.heap.size < w3.heap.size := by omega); (first | (have HK3 := hyd (blk_below HK1.out hw3 (blk_lt HK1.out))) | (have HK3 := hyd (new_belowE (P := w1) hw3)) | (have HK3 := hyd (new_belowdE (P := w1) hw3)) | skip); have HB3 : Hid (Below w1.heap.size w1 w3) := hyd (by first | (with_reducible exact hw3) | (with_reducible exact bel_dE hw3) | (with_reducible exact bel_aE hw3) | (with_reducible exact bel_aE (bel_dE hw3)) | (with_reducible exact bel_dE (bel_aE hw3)) | exact hw3 | exact bel_dE hw3 | exact bel_aE hw3); clear hw3))
                | (go_at_call 158; refine (HMU.out _).mono ?_; rintro e w4 ⟨rfl, hw4⟩; have xw4 : w4.cell? ⟨g, 1, none⟩ = some (.int .i64 p) ∧ w4.cell? ⟨w.heap.size, 3, none⟩ = some (.int .i64 s.lbp) ∧ w4.cell? ⟨w.heap.size, 4, none⟩ = some (.int .i64 s.most) := (by first | (with_reducible exact keep3E xw3 hw4) | (with_reducible exact keep3E (drew3E xw3) hw4) | (with_reducible exact keep3E (alloc3E xw3 _) hw4) | (with_reducible exact keep3E (drew3E (alloc3E xw3 _)) hw4) | (with_reducible exact keep3E (alloc3E (drew3E xw3) _) hw4) | exact keep3E xw3 hw4 | exact keep3E (alloc3E xw3 _) hw4); have hz4 := hw4.size; (try simp only [World.size_alloc, World.size_drew, size_drewN, World.size_setCell, Nat.add_one_le_iff] at hz4); (try have hy40 : wr.heap.size < w4.heap.size := by omega); (try have hy41 : w1.heap.size < w4.heap.size := by omega); (try have hy43 : w3.heap.size < w4.heap.size := by omega); (first | (have HK4 := hyd (blk_below HK3.out hw4 (blk_lt HK3.out))) | (have HK4 := hyd (new_belowE (P := w3) hw4)) | (have HK4 := hyd (new_belowdE (P := w3) hw4)) | skip); have HB4 : Hid (Below w3.heap.size w3 w4) := hyd (by first | (with_reducible exact hw4) | (with_reducible exact bel_dE hw4) | (with_reducible exact bel_aE hw4) | (with_reducible exact bel_aE (bel_dE hw4)) | (with_reducible exact bel_dE (bel_aE hw4)) | exact hw4 | exact bel_dE hw4 | exact bel_aE hw4); clear hw4)
                | (go_at_call 159; refine (HDV.out _).mono ?_; intro e w5 h6; obtain ⟨n', m, rfl, hq0, hq1, hq2, hw5⟩ := DivRes.pre2 h6; clear h6; have xw5 : w5.cell? ⟨g, 1, none⟩ = some (.int .i64 p) ∧ w5.cell? ⟨w.heap.size, 3, none⟩ = some (.int .i64 s.lbp) ∧ w5.cell? ⟨w.heap.size, 4, none⟩ = some (.int .i64 s.most) := (by first | (with_reducible exact keep3E xw4 hw5) | (with_reducible exact keep3E (drew3E xw4) hw5) | (with_reducible exact keep3E (alloc3E xw4 _) hw5) | (with_reducible exact keep3E (drew3E (alloc3E xw4 _)) hw5) | (with_reducible exact keep3E (alloc3E (drew3E xw4) _) hw5) | exact keep3E xw4 hw5 | exact keep3E (alloc3E xw4 _) hw5); have hz5 := hw5.size; (try simp only [World.size_alloc, World.size_drew, size_drewN, World.size_setCell, Nat.add_one_le_iff] at hz5); (try have hy50 : wr.heap.size < w5.heap.size := by omega); (try have hy51 : w1.heap.size < w5.heap.size := by omega); (try have hy53 : w3.heap.size < w5.heap.size := by omega); (try have hy54 : w4.heap.size < w5.heap.size := by omega); (first | (have HK5 := hyd (blk_below HK4.out hw5 (blk_lt HK4.out))) | (have HK5 := hyd (new_belowE (P := w4) hw5)) | (have HK5 := hyd (new_belowdE (P := w4) hw5)) | skip); (first | (have HE5 := hyd (blk5 HK5.out); obtain ⟨e0, e1, e2, e3, e4, e5⟩ := HE5.out) | skip); have HB5 : Hid (Below w4.heap.size w4 w5) := hyd (by first | (with_reducible exact hw5) | (with_reducible exact bel_dE hw5) | (with_reducible exact bel_aE hw5) | (with_reducible exact bel_aE (bel_dE hw5)) | (with_reducible exact bel_dE (bel_aE hw5)) | exact hw5 | exact bel_dE hw5 | exact bel_aE hw5); have HBA := hyd (bel4E HB1.out HB3.out HB4.out HB5.out); (try clear hw5))))
               all_goals go_wp2_with fail
               all_goals go_meet
               all_goals first
                | with_reducible refine wide_end0E HBA.out hq0 ?_ ?_ ?_
                | with_reducible refine wide_endE HBA.out HK5.out ?_ hq0 ?_ ?_ ?_
               all_goals first
                | (rw [hq2.out, HWM.out, HQD.out]; done)
                | (rw [HWM.out, HRD.out]; done)
                | with_reducible exact HRD2.out
                | (rw [hq2.out]; with_reducible exact HQD2.out)
                | (have := HMB.out.2; omega)
                | (have := HB1.out.size; have := HB3.out.size; have := HB4.out.size; have := HB5.out.size; omega)
             · have hsX2 : IntKind.i64.wrap (s.lbp * s.most) = X := by rw [Int.min_eq_right (by omega)] at hsX; exact hsX
               go_region_held3 (fun w' => w'.cell? ⟨g, 1, none⟩ = some (.int .i64 p) ∧ w'.cell? ⟨w.heap.size, 3, none⟩ = some (.int .i64 s.lbp) ∧ w'.cell? ⟨w.heap.size, 4, none⟩ = some (.int .i64 s.most))
                ((first | (with_reducible exact set5_3E xw5 hP3 (by omega) _ _ _ _ _) | (with_reducible exact drew3E (set5_3E xw5 hP3 (by omega) _ _ _ _ _)) | (with_reducible exact set5_3E (alloc3E xw5 _) hP3 (by omega) _ _ _ _ _) | (with_reducible exact drew3E (set5_3E (alloc3E xw5 _) hP3 (by omega) _ _ _ _ _)) | (with_reducible exact xw5) | (with_reducible exact drew3E xw5) | (with_reducible exact alloc3E xw5 _) | (with_reducible exact drew3E (alloc3E xw5 _)) | (with_reducible exact alloc3E (drew3E xw5) _) | (with_reducible exact xw4) | (with_reducible exact drew3E xw4) | (with_reducible exact alloc3E xw4 _) | (with_reducible exact drew3E (alloc3E xw4 _)) | (with_reducible exact alloc3E (drew3E xw4) _) | (with_reducible exact xw3) | (with_reducible exact drew3E xw3) | (with_reducible exact alloc3E xw3 _) | (with_reducible exact drew3E (alloc3E xw3 _)) | (with_reducible exact alloc3E (drew3E xw3) _) | (with_reducible exact xw1) | (with_reducible exact drew3E xw1) | (with_reducible exact alloc3E xw1 _) | (with_reducible exact drew3E (alloc3E xw1 _)) | (with_reducible exact alloc3E (drew3E xw1) _) | (with_reducible exact xw) | (with_reducible exact drew3E xw) | (with_reducible exact alloc3E xw _) | (with_reducible exact drew3E (alloc3E xw _)) | (with_reducible exact alloc3E (drew3E xw) _) | exact xw5 | exact alloc3E xw5 _ | exact set5_3E xw5 hP3 (by omega) _ _ _ _ _ | exact xw4 | exact alloc3E xw4 _ | exact xw3 | exact alloc3E xw3 _ | exact xw1 | exact alloc3E xw1 _ | exact xw | exact alloc3E xw _))
                ((first
                | (go_at_call 16; first
                    | ((with_reducible refine (HOA.out _).mono ?_); rintro e w1 ⟨rfl, hw1⟩; have xw1 : w1.cell? ⟨g, 1, none⟩ = some (.int .i64 p) ∧ w1.cell? ⟨w.heap.size, 3, none⟩ = some (.int .i64 s.lbp) ∧ w1.cell? ⟨w.heap.size, 4, none⟩ = some (.int .i64 s.most) := (by first | (with_reducible exact keep3E xw hw1) | (with_reducible exact keep3E (drew3E xw) hw1) | (with_reducible exact keep3E (alloc3E xw _) hw1) | (with_reducible exact keep3E (drew3E (alloc3E xw _)) hw1) | (with_reducible exact keep3E (alloc3E (drew3E xw) _) hw1) | exact keep3E xw hw1 | exact keep3E (alloc3E xw _) hw1); have hz1 := hw1.size; (try simp only [World.size_alloc, World.size_drew, size_drewN, World.size_setCell, Nat.add_one_le_iff] at hz1); (try have hy10 : wr.heap.size < w1.heap.size := by omega); (try have hy13 : w3.heap.size < w1.heap.size := by omega); (try have hy14 : w4.heap.size < w1.heap.size := by omega); (first | (have HK1 := hyd (new_belowE (P := wr) hw1)) | (have HK1 := hyd (new_belowdE (P := wr) hw1)) | skip); have HB1 : Hid (Below wr.heap.size wr w1) := hyd (by first | (with_reducible exact hw1) | (with_reducible exact bel_dE hw1) | (with_reducible exact bel_aE hw1) | (with_reducible exact bel_aE (bel_dE hw1)) | (with_reducible exact bel_dE (bel_aE hw1)) | exact hw1 | exact bel_dE hw1 | exact bel_aE hw1); clear hw1)
                    | ((with_reducible refine (HOX.out _).mono ?_); rintro e w3 ⟨rfl, hw3⟩; have xw3 : w3.cell? ⟨g, 1, none⟩ = some (.int .i64 p) ∧ w3.cell? ⟨w.heap.size, 3, none⟩ = some (.int .i64 s.lbp) ∧ w3.cell? ⟨w.heap.size, 4, none⟩ = some (.int .i64 s.most) := (by first | (with_reducible exact keep3E xw1 hw3) | (with_reducible exact keep3E (drew3E xw1) hw3) | (with_reducible exact keep3E (alloc3E xw1 _) hw3) | (with_reducible exact keep3E (drew3E (alloc3E xw1 _)) hw3) | (with_reducible exact keep3E (alloc3E (drew3E xw1) _) hw3) | exact keep3E xw1 hw3 | exact keep3E (alloc3E xw1 _) hw3); have hz3 := hw3.size; (try simp only [World.size_alloc, World.size_drew, size_drewN, World.size_setCell, Nat.add_one_le_iff] at hz3); (try have hy30 : wr.heap.size < w3.heap.size := by omega); (try have hy31 : w1.heap.size < w3.heap.size := by omega); (try have hy34 : w4.heap.size < w3.heap.size := by omega); (first | (have HK3 := hyd (blk_below HK1.out hw3 (blk_lt HK1.out))) | (have HK3 := hyd (new_belowE (P := w1) hw3)) | (have HK3 := hyd (new_belowdE (P := w1) hw3)) | skip); have HB3 : Hid (Below w1.heap.size w1 w3) := hyd (by first | (with_reducible exact hw3) | (with_reducible exact bel_dE hw3) | (with_reducible exact bel_aE hw3) | (with_reducible exact bel_aE (bel_dE hw3)) | (with_reducible exact bel_dE (bel_aE hw3)) | exact hw3 | exact bel_dE hw3 | exact bel_aE hw3); clear hw3))
                | (go_at_call 158; refine (HMU.out _).mono ?_; rintro e w4 ⟨rfl, hw4⟩; have xw4 : w4.cell? ⟨g, 1, none⟩ = some (.int .i64 p) ∧ w4.cell? ⟨w.heap.size, 3, none⟩ = some (.int .i64 s.lbp) ∧ w4.cell? ⟨w.heap.size, 4, none⟩ = some (.int .i64 s.most) := (by first | (with_reducible exact keep3E xw3 hw4) | (with_reducible exact keep3E (drew3E xw3) hw4) | (with_reducible exact keep3E (alloc3E xw3 _) hw4) | (with_reducible exact keep3E (drew3E (alloc3E xw3 _)) hw4) | (with_reducible exact keep3E (alloc3E (drew3E xw3) _) hw4) | exact keep3E xw3 hw4 | exact keep3E (alloc3E xw3 _) hw4); have hz4 := hw4.size; (try simp only [World.size_alloc, World.size_drew, size_drewN, World.size_setCell, Nat.add_one_le_iff] at hz4); (try have hy40 : wr.heap.size < w4.heap.size := by omega); (try have hy41 : w1.heap.size < w4.heap.size := by omega); (try have hy43 : w3.heap.size < w4.heap.size := by omega); (first | (have HK4 := hyd (blk_below HK3.out hw4 (blk_lt HK3.out))) | (have HK4 := hyd (new_belowE (P := w3) hw4)) | (have HK4 := hyd (new_belowdE (P := w3) hw4)) | skip); have HB4 : Hid (Below w3.heap.size w3 w4) := hyd (by first | (with_reducible exact hw4) | (with_reducible exact bel_dE hw4) | (with_reducible exact bel_aE hw4) | (with_reducible exact bel_aE (bel_dE hw4)) | (with_reducible exact bel_dE (bel_aE hw4)) | exact hw4 | exact bel_dE hw4 | exact bel_aE hw4); clear hw4)
                | (go_at_call 159; refine (HDV.out _).mono ?_; intro e w5 h6; obtain ⟨n', m, rfl, hq0, hq1, hq2, hw5⟩ := DivRes.pre2 h6; clear h6; have xw5 : w5.cell? ⟨g, 1, none⟩ = some (.int .i64 p) ∧ w5.cell? ⟨w.heap.size, 3, none⟩ = some (.int .i64 s.lbp) ∧ w5.cell? ⟨w.heap.size, 4, none⟩ = some (.int .i64 s.most) := (by first | (with_reducible exact keep3E xw4 hw5) | (with_reducible exact keep3E (drew3E xw4) hw5) | (with_reducible exact keep3E (alloc3E xw4 _) hw5) | (with_reducible exact keep3E (drew3E (alloc3E xw4 _)) hw5) | (with_reducible exact keep3E (alloc3E (drew3E xw4) _) hw5) | exact keep3E xw4 hw5 | exact keep3E (alloc3E xw4 _) hw5); have hz5 := hw5.size; (try simp only [World.size_alloc, World.size_drew, size_drewN, World.size_setCell, Nat.add_one_le_iff] at hz5); (try have hy50 : wr.heap.size < w5.heap.size := by omega); (try have hy51 : w1.heap.size < w5.heap.size := by omega); (try have hy53 : w3.heap.size < w5.heap.size := by omega); (try have hy54 : w4.heap.size < w5.heap.size := by omega); (first | (have HK5 := hyd (blk_below HK4.out hw5 (blk_lt HK4.out))) | (have HK5 := hyd (new_belowE (P := w4) hw5)) | (have HK5 := hyd (new_belowdE (P := w4) hw5)) | skip); (first | (have HE5 := hyd (blk5 HK5.out); obtain ⟨e0, e1, e2, e3, e4, e5⟩ := HE5.out) | skip); have HB5 : Hid (Below w4.heap.size w4 w5) := hyd (by first | (with_reducible exact hw5) | (with_reducible exact bel_dE hw5) | (with_reducible exact bel_aE hw5) | (with_reducible exact bel_aE (bel_dE hw5)) | (with_reducible exact bel_dE (bel_aE hw5)) | exact hw5 | exact bel_dE hw5 | exact bel_aE hw5); have HBA := hyd (bel4E HB1.out HB3.out HB4.out HB5.out); (try clear hw5))))
               all_goals go_wp2_with fail
               all_goals go_meet
               all_goals first
                | with_reducible refine wide_end0E HBA.out hq0 ?_ ?_ ?_
                | with_reducible refine wide_endE HBA.out HK5.out ?_ hq0 ?_ ?_ ?_
               all_goals first
                | (rw [hq2.out, HWM.out, HQD.out]; done)
                | (rw [HWM.out, HRD.out]; done)
                | with_reducible exact HRD2.out
                | (rw [hq2.out]; with_reducible exact HQD2.out)
                | (have := HMB.out.2; omega)
                | (have := HB1.out.size; have := HB3.out.size; have := HB4.out.size; have := HB5.out.size; omega)
            case rest =>
             obtain ⟨gw, n', m, rfl, rfl, hbq, u0, u1, hwz, hgl, hbx⟩ := hcut
             obtain ⟨e0, e1, e2, e3, e4, e5⟩ := blk5 hbq
             have HB5 := hyd (HB3.out.up hbx)
             have hg5 := blk_below HG3.out hbx hz3
             have HT6 := hyd (fun wx => wtold_any n' m wx u0 u1)
             have HTQ : Hid (told (wz n' m) = (N, 0)) := by show _ = _; rw [hwz]; exact told_yes (by simp [amt]; omega)
             have hz5 : g < wc.heap.size := blk_lt hg5
             have HG5 := hyd hg5
             clear hbq hwz hbx e5 hg5 r0 r1 r2 r3 r4 q0 q1 q2 q3 q4 s0 s1 s2 s3 s4 s5 o0 o1 o2 o3 o4
             go_wp2_with fail
             refine (HT6.out _).mono ?_
             rintro e w6 ⟨rfl, hw6⟩
             rw [HTQ.out]
             have HB6 := hyd (HB5.out.up hw6)
             have hg6 := blk_below HG5.out hw6 hz5
             obtain ⟨q0, q1, q2, q3, q4⟩ := cells4B hg6
             obtain ⟨s0, s1, s2, s3, s4, s5⟩ := cells6 HB6.out.b0
             obtain ⟨o0, o1, o2, o3, o4⟩ := cells4B HB6.out.b2
             have hz6 : g < w6.heap.size := blk_lt hg6
             have hz7 : w.heap.size + 2 < w6.heap.size := by omega
             have hgne : w.heap.size + 2 ≠ g := by omega
             have hgne' : g ≠ w.heap.size + 2 := by omega
             have HFAR := hyd (fun u => blk_far (p := ⟨g, 2, none⟩) HB6.out.b2 hgne u)
             clear hw6 hg6 e0 e1 e2 e3 e4 HT6
             go_wp2_with fail
             refine HQV.out _ _ _ ?_
             refine bodyPost_ret (results_row_tmpB rfl _ _ (w.heap.size + 2) 85 #[.int .i64 t, .int .i64 p, .int .i64 (min (max N s.least) p), .int .i64 x] (0, 0) _ (by rfl) (set4_blkB (HFAR.out _) _ _ _ _) Tryz.underlying85 rfl (by kernel_rfl)) rfl ?_
             exact ⟨by rw [HE.out, HBV.out, HP.out]; rfl, below_set4 (HB6.out.bel.setCell (by show w.heap.size ≤ g; omega) _) (by omega) _ _ _ _⟩
          · have HP : Hid (penV s p (lateI r) = 0) := by
              show _ = _; rw [HLI.out]; exact if_neg (by have := HKL.out; omega)
            have hK0e : K = 0 := by omega
            subst hK0e
            go_wp2_with fail
            refine HQV.out _ _ _ ?_
            refine bodyPost_ret (results_row_tmpB rfl _ _ (w.heap.size + 2) 85 #[.int .i64 t, .int .i64 p, .int .i64 0, .int .i64 x] (0, 0) _ (by rfl) (set4_blkB HB3.out.b2 _ _ _ _) Tryz.underlying85 rfl (by kernel_rfl)) rfl ?_
            exact ⟨by rw [HE.out, HBV.out, HP.out]; rfl, below_set4 HB3.out.bel (by omega) _ _ _ _⟩
        · have HP : Hid (penV s p (lateI r) = 0) := by
            show _ = _; rw [HLI.out, HLZ.out (by omega)]; exact if_neg (by omega)
          have hfd' : ¬ r.due < r.filed := by have := HDF.out; omega
          clear hfd
          go_wp2_with fail
          refine HQV.out _ _ _ ?_
          refine bodyPost_ret (results_row_tmpB rfl _ _ (w.heap.size + 2) 85 #[.int .i64 t, .int .i64 p, .int .i64 0, .int .i64 x] (0, 0) _ (by rfl) (set4_blkB HB3.out.b2 _ _ _ _) Tryz.underlying85 rfl (by kernel_rfl)) rfl ?_
          exact ⟨by rw [HE.out, HBV.out, HP.out]; rfl, below_set4 HB3.out.bel (by omega) _ _ _ _⟩
      · have HP : Hid (penV s p (lateI r) = 0) := if_neg (fun h => hp0 h.1)
        go_wp2_with fail
        refine HQV.out _ _ _ ?_
        refine bodyPost_ret (results_row_tmpB rfl _ _ (w.heap.size + 2) 85 #[.int .i64 t, .int .i64 p, .int .i64 0, .int .i64 x] (0, 0) _ (by rfl) (set4_blkB HB3.out.b2 _ _ _ _) Tryz.underlying85 rfl (by kernel_rfl)) rfl ?_
        exact ⟨by rw [HE.out, HBV.out, HP.out]; rfl, below_set4 HB3.out.bel (by omega) _ _ _ _⟩
   · have HE : Hid (billS s r = (Bl.zero, 1)) := billS_no1 (fun h => hos (okS_is h))
     have ht : taxS s r.inc = (0, 1) := if_neg (by simp [hos])
     have HTX := hyd (fun wx h => rtax_any A n c s r.inc wx hn h)
     rw [ht] at HTX
     clear hos ht
     go_enter Tryz.func118, Tryz.ntmps118
     refine wp_veil fun Qv HQV => ?_
     go_wp2_with fail
     generalize ((w.alloc (schO A n c s)).alloc (retO r 37)).alloc (blO 0 0 0 0) = W at *
     refine HRT.out.mono ?_; rintro e w1 ⟨rfl, hw1⟩
     have HB1 := hyd (HBX.out.up hw1)
     have HR1 := hyd ((HRD.out.below hw1).wider hw1.size)
     obtain ⟨r0, r1, r2, r3, r4⟩ := cells5B HB1.out.b1
     obtain ⟨s0, s1, s2, s3, s4, s5⟩ := cells6 HB1.out.b0
     have hz1 : w.heap.size + 2 < w1.heap.size := blk_lt HB1.out.b2
     rw [hrt]
     clear hw1 hrt
     go_wp2_with fail
     refine (HTX.out w1 HR1.out).mono ?_; rintro e w2 ⟨rfl, hw2⟩
     have HB2 := hyd (HB1.out.up hw2)
     clear r0 r1 r2 r3 r4 s0 s1 s2 s3 s4 s5
     obtain ⟨o0, o1, o2, o3, o4⟩ := cells4B HB2.out.b2
     have hz2 : w.heap.size + 2 < w2.heap.size := blk_lt HB2.out.b2
     clear hw2
     go_wp2_with fail
     refine HQV.out _ _ _ ?_
     refine bodyPost_ret (results_row_tmpB rfl _ _ (w.heap.size + 2) 85 #[.int .i64 0, .int .i64 0, .int .i64 0, .int .i64 0] (0, 0) _ (by rfl) (set4_blkB HB2.out.b2 _ _ _ _) Tryz.underlying85 rfl (by kernel_rfl)) rfl ?_
     exact ⟨by rw [HE.out]; rfl, below_set4 HB2.out.bel (by omega) _ _ _ _⟩
 · have HE : Hid (billS s r = (Bl.zero, 1)) := billS_no2 hrt
   have HTX := hyd (fun wx h => rtax_any A n c s r.inc wx hn h)
   obtain ⟨t, e0, ht⟩ : ∃ t e0, taxS s r.inc = (t, e0) := ⟨_, _, rfl⟩
   rw [ht] at HTX
   clear ht
   go_enter Tryz.func118, Tryz.ntmps118
   refine wp_veil fun Qv HQV => ?_
   go_wp2_with fail
   generalize ((w.alloc (schO A n c s)).alloc (retO r 37)).alloc (blO 0 0 0 0) = W at *
   refine HRT.out.mono ?_; rintro e w1 ⟨rfl, hw1⟩
   have HB1 := hyd (HBX.out.up hw1)
   have HR1 := hyd ((HRD.out.below hw1).wider hw1.size)
   obtain ⟨r0, r1, r2, r3, r4⟩ := cells5B HB1.out.b1
   obtain ⟨s0, s1, s2, s3, s4, s5⟩ := cells6 HB1.out.b0
   have hz1 : w.heap.size + 2 < w1.heap.size := blk_lt HB1.out.b2
   rw [Bool.eq_false_iff.2 hrt]
   clear hw1 hrt
   go_wp2_with fail
   refine (HTX.out w1 HR1.out).mono ?_; rintro e w2 ⟨rfl, hw2⟩
   have HB2 := hyd (HB1.out.up hw2)
   clear r0 r1 r2 r3 r4 s0 s1 s2 s3 s4 s5
   obtain ⟨o0, o1, o2, o3, o4⟩ := cells4B HB2.out.b2
   have hz2 : w.heap.size + 2 < w2.heap.size := blk_lt HB2.out.b2
   clear hw2
   go_wp2_with fail
   refine HQV.out _ _ _ ?_
   refine bodyPost_ret (results_row_tmpB rfl _ _ (w.heap.size + 2) 85 #[.int .i64 0, .int .i64 0, .int .i64 0, .int .i64 0] (0, 0) _ (by rfl) (set4_blkB HB2.out.b2 _ _ _ _) Tryz.underlying85 rfl (by kernel_rfl)) rfl ?_
   exact ⟨by rw [HE.out]; rfl, below_set4 HB2.out.bel (by omega) _ _ _ _⟩
theorem rchange_any (A : Option Addr) (n c : Nat) (s : Sch) (a f : Ret) (w : World) (hn : s.bs.length = n) (hr : Rd w w.heap.size 2 A n (brCs s.bs)) :
  Calls Tryz.prog 124 #[schV A n c s, retV a, retV f] w fun e w' => e = .returned (blR (changeS s a f)) ∧ Below w.heap.size w w' := by
 have hbx := ChBox.start w A n c s a f
 have HRD := hyd ((hr.below hbx.bel).wider hbx.bel.size)
 have hz0 : w.heap.size + 3 < ((((w.alloc (schO A n c s)).alloc (retO a 37)).alloc (retO f 37)).alloc (blO 0 0 0 0)).heap.size := by simp
 have HBX := hyd hbx
 have hba := fun wx h => rbill_any A n c s a wx hn h
 have hbf := fun wx h => rbill_any A n c s f wx hn h
 have HBM := hyd (fun wx h => rbill_any A n c s (a.moved f) wx hn h)
 obtain ⟨ba, ea⟩ : ∃ p, billS s a = p := ⟨_, rfl⟩
 obtain ⟨bf, ef⟩ : ∃ p, billS s f = p := ⟨_, rfl⟩
 rw [ea] at hba; rw [ef] at hbf
 have HEA := hyd ea; have HEF := hyd ef
 obtain ⟨⟨a0, a1, a2, a3⟩, ae⟩ := ba
 obtain ⟨⟨f0, f1, f2, f3⟩, fe⟩ := bf
 have HBA := hyd hba; have HBF := hyd hbf
 have HR0 := hyd hr
 clear hr hbx ea ef hba hbf
 go_enter Tryz.func124, Tryz.ntmps124
 go_wp2_with fail
 generalize (((w.alloc (schO A n c s)).alloc (retO a 37)).alloc (retO f 37)).alloc (blO 0 0 0 0) = W at *
 refine (HBA.out W HRD.out).mono ?_; rintro e w1 ⟨rfl, hw1⟩
 have hb1 := HBX.out.up hw1
 have hr1 := (HRD.out.below hw1).wider hw1.size
 have HB1 := hyd (hb1.up (below_new w1 (blO a0 a1 a2 a3)))
 have HR1 := hyd ((hr1.below (below_new w1 (blO a0 a1 a2 a3))).wider (below_new w1 (blO a0 a1 a2 a3)).size)
 have hg1 := heap_alloc_new w1 (blO a0 a1 a2 a3)
 have hz1 : w.heap.size + 3 < w1.heap.size := blk_lt hb1.b3
 have hz10 : w.heap.size < w1.heap.size := by omega
 have hz11 : w.heap.size + 1 < w1.heap.size := by omega
 have hz12 : w.heap.size + 1 + 1 < w1.heap.size := by omega
 obtain ⟨ga, hga⟩ : ∃ ga, ga = w1.heap.size := ⟨_, rfl⟩
 obtain ⟨s0, s1, s2, s3, s4, s5⟩ := cells6 hb1.b0
 obtain ⟨p0, p1, p2, p3, p4⟩ := cells5B (g := w.heap.size + 1 + 1) hb1.b2
 clear hb1 hr1 hw1
 go_wp2_with fail
 rw [← hga] at hg1 hz1 ⊢
 have hzg : ga < (w1.alloc (blO a0 a1 a2 a3)).heap.size := blk_lt hg1
 generalize w1.alloc (blO a0 a1 a2 a3) = W1 at *
 have HG1 := hyd hg1
 clear hz10 hz11 hz12 hga hg1 s0 s1 s2 s3 s4 s5 p0 p1 p2 p3 p4
 refine (HBF.out W1 HR1.out).mono ?_; rintro e w2 ⟨rfl, hw2⟩
 have hb2 := HB1.out.up hw2
 have hr2 := (HR1.out.below hw2).wider hw2.size
 have hg2 := blk_below HG1.out hw2 hzg
 have hz2 : w.heap.size + 3 < w2.heap.size := blk_lt hb2.b3
 have hz20 : w.heap.size < w2.heap.size := by omega
 have hz21 : w.heap.size + 1 < w2.heap.size := by omega
 have hz22 : w.heap.size + 1 + 1 < w2.heap.size := by omega
 have hz23 : w.heap.size + 1 + 1 + 1 < w2.heap.size := by omega
 obtain ⟨s0, s1, s2, s3, s4, s5⟩ := cells6 hb2.b0
 obtain ⟨q0, q1, q2, q3, q4⟩ := cells5B hb2.b1
 obtain ⟨p0, p1, p2, p3, p4⟩ := cells5B (g := w.heap.size + 1 + 1) hb2.b2
 obtain ⟨o0, o1, o2, o3, o4⟩ := cells4B (g := w.heap.size + 1 + 1 + 1) hb2.b3
 have HB2 := hyd (hb2.up (below_new w2 (blO f0 f1 f2 f3)))
 have HR2 := hyd ((hr2.below (below_new w2 (blO f0 f1 f2 f3))).wider (below_new w2 (blO f0 f1 f2 f3)).size)
 have HG2 := hyd (blk_alloc hg2 (blO f0 f1 f2 f3))
 have HX2 := hyd hb2; have HGA2 := hyd hg2
 clear hb2 hr2 hw2 hg2
 by_cases hA : okS s = true ∧ retB a = true
 · by_cases hF : retB f = true
   · obtain ⟨hok, hra⟩ := hA
     have HOK := hyd (okS_yes hok)
     have hea := HEA.out; have hef := HEF.out
     rw [billS_yes HOK.out hra] at hea; rw [billS_yes HOK.out hF] at hef
     obtain ⟨ea1, rfl⟩ := Prod.mk.inj hea
     obtain ⟨_, rfl⟩ := Prod.mk.inj hef
     have HVA : Hid (billV s a = ⟨a0, a1, a2, a3⟩) := ea1
     clear hea hef ea1
     by_cases hO : a.per ≠ f.per ∨ f.filed < a.filed
     · have HC := hyd (change_ord hok hra hF hO)
       by_cases hp : a.per = f.per
       · have hfl : f.filed < a.filed := by rcases hO with h | h; exact absurd hp h; exact h
         have hpp : (a.per != f.per) = false := by simpa using hp
         clear hO hp
         go_wp2_with fail
         refine bodyPost_ret (results_row_tmpB rfl _ _ (w.heap.size + 1 + 1 + 1) 85 #[.int .i64 0, .int .i64 0, .int .i64 0, .int .i64 0] (0, 0) _ (by rfl) (blk_alloc (set4_blkB (g := w.heap.size + 1 + 1 + 1) HX2.out.b3 _ _ _ _) _) Tryz.underlying85 rfl (by kernel_rfl)) rfl ?_
         have hbs := below_set4 (g := w.heap.size + 1 + 1 + 1) HX2.out.bel (by omega) (.int .i64 0) (.int .i64 0) (.int .i64 0) (.int .i64 0)
         exact ⟨by rw [HC.out]; rfl, hbs.alloc hbs.size _⟩
       · have hpp : (a.per != f.per) = true := by simpa using hp
         clear hO
         go_wp2_with fail
         refine bodyPost_ret (results_row_tmpB rfl _ _ (w.heap.size + 1 + 1 + 1) 85 #[.int .i64 0, .int .i64 0, .int .i64 0, .int .i64 0] (0, 0) _ (by rfl) (blk_alloc (set4_blkB (g := w.heap.size + 1 + 1 + 1) HX2.out.b3 _ _ _ _) _) Tryz.underlying85 rfl (by kernel_rfl)) rfl ?_
         have hbs := below_set4 (g := w.heap.size + 1 + 1 + 1) HX2.out.bel (by omega) (.int .i64 0) (.int .i64 0) (.int .i64 0) (.int .i64 0)
         exact ⟨by rw [HC.out]; rfl, hbs.alloc hbs.size _⟩
     · have HC := hyd (change_yes hok hra hF hO)
       have hp : a.per = f.per := Classical.byContradiction fun h => hO (.inl h)
       have hfl : ¬ f.filed < a.filed := fun h => hO (.inr h)
       have hpp : (a.per != f.per) = false := by simpa using hp
       have hm := retB_moved hra hF
       have HBD := hyd (bill_bd HOK.out hra); have HBDM := hyd (bill_bd (r := a.moved f) HOK.out hm)
       have hbm := HBM
       have em : billS s (a.moved f) = (billV s (a.moved f), 0) := billS_yes HOK.out hm
       rw [em] at HBM
       obtain ⟨bm, hbm2⟩ : ∃ b, billV s (a.moved f) = b := ⟨_, rfl⟩
       rw [hbm2] at HBM HC HBDM
       rw [HVA.out] at HC HBD
       obtain ⟨b0, b1, b2, b3⟩ := bm
       have HF1 : Hid (∀ v, (v : Int) = v) := fun _ => rfl
       clear hO hp em hbm hbm2 hm
       have hm2 := HX2.out.move
       have hb3 := hm2.up (below_new _ (blO f0 f1 f2 f3))
       have hga3 := blk_alloc (blk_far (p := ⟨w.heap.size + 1 + 1, 2, none⟩) (blk_far (p := ⟨w.heap.size + 1 + 1, 1, none⟩) HGA2.out (by show ga ≠ w.heap.size + 1 + 1; omega) (.int .i64 a.due)) (by show ga ≠ w.heap.size + 1 + 1; omega) (.int .i64 a.filed)) (blO f0 f1 f2 f3)
       have hr3 := (HR0.out.below hb3.bel).wider hb3.bel.size
       have hfr := fun k => blk_free HX2.out.b2 k
       clear hm2 o0 o1 o2 o3 o4
       go_upto_region 9 with fail
       generalize ((w2.setCell ⟨w.heap.size + 1 + 1, 1, none⟩ (.int .i64 a.due)).setCell ⟨w.heap.size + 1 + 1, 2, none⟩ (.int .i64 a.filed)).alloc (blO f0 f1 f2 f3) = W3 at *
       have HB3 := hyd hb3; have HGA3 := hyd hga3; have HR3 := hyd hr3
       obtain ⟨t0, t1, t2, t3, t4, t5⟩ := cells6 hb3.b0
       obtain ⟨r0, r1, r2, r3, r4⟩ := cells5B (g := w.heap.size + 1 + 1) hb3.b2
       clear hb3 hga3 hr3 hfr s0 s1 s2 s3 s4 s5 q0 q1 q2 q3 q4 p0 p1 p2 p3 p4 hz2 hz20 hz21 hz22 hz23
       go_wp2_with fail
       refine (HBM.out W3 HR3.out).mono ?_; rintro e w4 ⟨rfl, hw4⟩
       have HB4 := hyd (HB3.out.up hw4)
       have hga4 := blk_below HGA3.out hw4 (blk_lt HGA3.out)
       obtain ⟨u0, u1, u2, u3, -⟩ := cells4B hga4
       obtain ⟨o0, o1, o2, o3, o4⟩ := cells4B (g := w.heap.size + 1 + 1 + 1) HB4.out.b3
       have hzz := blk_lt hga4
       have hz4 : w.heap.size + 1 + 1 + 1 < w4.heap.size := blk_lt HB4.out.b3
       obtain ⟨⟨y1, y2⟩, ⟨y3, y4⟩, ⟨y5, y6⟩, ⟨y7, y8⟩, -, -⟩ : (0 ≤ a0 ∧ a0 ≤ 1125899906842624) ∧ (0 ≤ a1 ∧ a1 ≤ 1125899906842624) ∧ (0 ≤ a2 ∧ a2 ≤ a1) ∧ (0 ≤ a3 ∧ a3 ≤ 1125899906842624) ∧ (a1 = 0 ∨ a3 = 0) ∧ a0 = a1 + a.wh - a3 := HBD.out
       obtain ⟨⟨m1, m2⟩, ⟨m3, m4⟩, ⟨m5, m6⟩, ⟨m7, m8⟩, -, -⟩ : (0 ≤ b0 ∧ b0 ≤ 1125899906842624) ∧ (0 ≤ b1 ∧ b1 ≤ 1125899906842624) ∧ (0 ≤ b2 ∧ b2 ≤ b1) ∧ (0 ≤ b3 ∧ b3 ≤ 1125899906842624) ∧ (b1 = 0 ∨ b3 = 0) ∧ b0 = b1 + (a.moved f).wh - b3 := HBDM.out
       have w0 : IntKind.i64.wrap (b0 - a0) = b0 - a0 := IntWalk.i64_in _ (by omega)
       have w1' : IntKind.i64.wrap (b1 - a1) = b1 - a1 := IntWalk.i64_in _ (by omega)
       have w2' : IntKind.i64.wrap (b2 - a2) = b2 - a2 := IntWalk.i64_in _ (by omega)
       have w3' : IntKind.i64.wrap (b3 - a3) = b3 - a3 := IntWalk.i64_in _ (by omega)
       clear hw4 hga4 t0 t1 t2 t3 t4 t5 r0 r1 r2 r3 r4
       go_wp2_with fail
       refine bodyPost_ret (results_row_tmpB rfl _ _ (w.heap.size + 1 + 1 + 1) 85 #[.int .i64 (b0 - a0), .int .i64 (b1 - a1), .int .i64 (b2 - a2), .int .i64 (b3 - a3)] (0, 0) _ (by rfl) (blk_alloc (set4_blkB (g := w.heap.size + 1 + 1 + 1) HB4.out.b3 _ _ _ _) _) Tryz.underlying85 rfl (by kernel_rfl)) rfl ?_
       have hbs := below_set4 (g := w.heap.size + 1 + 1 + 1) HB4.out.bel (by omega) (.int .i64 (b0 - a0)) (.int .i64 (b1 - a1)) (.int .i64 (b2 - a2)) (.int .i64 (b3 - a3))
       exact ⟨by rw [HC.out]; rfl, hbs.alloc hbs.size _⟩
   · have hef := HEF.out
     rw [billS_no2 hF] at hef
     obtain ⟨_, rfl⟩ := Prod.mk.inj hef
     have HC := hyd (change_no2 (s := s) (a := a) hF)
     have hea := HEA.out
     rw [billS_yes (okS_yes hA.1) hA.2] at hea
     obtain ⟨_, rfl⟩ := Prod.mk.inj hea
     clear hef hea
     go_wp2_with fail
     refine bodyPost_ret (results_row_tmpB rfl _ _ (w.heap.size + 1 + 1 + 1) 85 #[.int .i64 0, .int .i64 0, .int .i64 0, .int .i64 0] (0, 0) _ (by rfl) (blk_alloc (set4_blkB (g := w.heap.size + 1 + 1 + 1) HX2.out.b3 _ _ _ _) _) Tryz.underlying85 rfl (by kernel_rfl)) rfl ?_
     have hbs := below_set4 (g := w.heap.size + 1 + 1 + 1) HX2.out.bel (by omega) (.int .i64 0) (.int .i64 0) (.int .i64 0) (.int .i64 0)
     exact ⟨by rw [HC.out]; rfl, hbs.alloc hbs.size _⟩
 · have hea := HEA.out
   rw [billS_err hA] at hea
   obtain ⟨_, rfl⟩ := Prod.mk.inj hea
   have HC := hyd (change_no1 (s := s) (a := a) (b := f) hA)
   clear hea
   go_wp2_with fail
   refine bodyPost_ret (results_row_tmpB rfl _ _ (w.heap.size + 1 + 1 + 1) 85 #[.int .i64 0, .int .i64 0, .int .i64 0, .int .i64 0] (0, 0) _ (by rfl) (blk_alloc (set4_blkB (g := w.heap.size + 1 + 1 + 1) HX2.out.b3 _ _ _ _) _) Tryz.underlying85 rfl (by kernel_rfl)) rfl ?_
   have hbs := below_set4 (g := w.heap.size + 1 + 1 + 1) HX2.out.bel (by omega) (.int .i64 0) (.int .i64 0) (.int .i64 0) (.int .i64 0)
   exact ⟨by rw [HC.out]; rfl, hbs.alloc hbs.size _⟩
end Go.Proofs.YtbjjgnaojoaoiaaGreat
