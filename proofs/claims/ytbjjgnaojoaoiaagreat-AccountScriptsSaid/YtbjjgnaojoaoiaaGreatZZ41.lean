/- Laws. -/
import Derived.Test.YtbjjgnaojoaoiaaGreatZZ12
import Derived.Test.YtbjjgnaojoaoiaaGreatZZ7
import Derived.Test.YtbjjgnaojoaoiaaGreatZZ9
namespace Go.Proofs.YtbjjgnaojoaoiaaGreat
open Go.RowKit Go
set_option linter.unusedVariables false
set_option linter.unusedSimpArgs false
set_option maxHeartbeats 3200000
set_option maxRecDepth 100000
theorem keep_cell2 {w w2 w3 W : World} {p : Addr} {v : Value} {o : Obj} (hs : w2.cell? p = some v) (h : Below w.heap.size W w2) (hb : Below (w2.alloc o).heap.size (w2.alloc o) w3) : w3.cell? p = some v := by
 have z := World.block_lt_of_cell? _ _ hs
 exact (hb.cell (by simp; omega)).trans ((World.cell?_alloc_lt _ _ _ z).trans hs)
theorem cells2b {w : World} {v0 v1 : Value} {t g : Nat} (h : w.heap[g]? = some (.cells #[v0, v1] t (0, 0))) : w.cell? ⟨g, 0, none⟩ = some v0 ∧ w.cell? ⟨g, 1, none⟩ = some v1 ∧ ∀ i, w.frozen? ⟨g, i, none⟩ = false := by
 simp [World.cell?, World.frozen?, h]
theorem below_4 {W w1 w3 w4 w5 : World} (h1 : Below W.heap.size W w1) (h3 : Below w1.heap.size w1 w3) (h4 : Below w3.heap.size w3 w4) (h5 : Below w4.heap.size w4 w5) : Below W.heap.size W w5 :=
 have a := h1.trans (h3.mono h1.size)
 have b := a.trans (h4.mono a.size)
 b.trans (h5.mono b.size)
theorem below_set5 {B g : Nat} {w w' : World} (h : Below B w w') (hg : B ≤ g) (u0 u1 u2 u3 u4 : Value) : Below B w (((((w'.setCell ⟨g, 0, none⟩ u0).setCell ⟨g, 1, none⟩ u1).setCell ⟨g, 2, none⟩ u2).setCell ⟨g, 3, none⟩ u3).setCell ⟨g, 4, none⟩ u4) :=
 ((((h.setCell hg _).setCell hg _).setCell hg _).setCell hg _).setCell hg _
theorem below_drew {w w' : World} (h : Below w.drew.heap.size w.drew w') : Below w.heap.size w w' := (Below.refl _ _).drew.trans h
theorem of_nat2 (a : Int) (w : World) (h0 : 0 ≤ a) (ha : a ≤ 9223372036854775807) : Calls Tryz.prog 16 #[.int .i64 a] w fun e w' => e = .returned (wd false a) ∧ Below w.heap.size w w' := by
 have := of_any a w (by omega)
 rwa [decide_eq_false (by omega), show (a.natAbs : Int) = a by omega] at this
theorem up_step {bs : List Br} {P : Int} {k : Nat} : up_ bs P (k + 1) = up_ bs P k + piece bs P k := rfl
theorem DivRes.pre2 {n : Bool} {m c : Int} {w0 w' : World} {e : Ending} (h : DivRes n m c w0 e w') : ∃ n' q, e = .returned (.tuple #[wd n' q, .int .i64 (wz n m % c)]) ∧ 0 ≤ q ∧ q ≤ m ∧ Hid (wz n' q = wz n m / c) ∧ Below w0.heap.size w0 w' := by
 obtain ⟨⟨n', q, h1, h2, h3, h4⟩, h5⟩ := h
 exact ⟨n', q, h1, h2, h3, h4, h5⟩
theorem rtax_any (A : Option Addr) (n c : Nat) (s : Sch) (x : Int) (w : World) (hn : s.bs.length = n) (hr : Rd w w.heap.size 2 A n (brCs s.bs)) :
  Calls Tryz.prog 156 #[schV A n c s, .int .i64 x] w fun e w' => e = .returned (pr (taxS s x)) ∧ Below w.heap.size w w' := by
 have hb0 := below_new w (schO A n c s)
 have hr0 := (hr.below hb0).wider hb0.size
 have HRT := hyd (rright_any A n c s _ hn hr0)
 have hbk := heap_alloc_new w (schO A n c s)
 have HB0 := hyd hb0; have HR0 := hyd hr0; have HN := hyd hn
 have hz0 : w.heap.size < (w.alloc (schO A n c s)).heap.size := by simp
 clear hb0 hr hr0 hn
 by_cases hok : okS s = true
 · by_cases hx : mny x = true
   · have HOK := hyd (okS_yes hok)
     have hx' := mny_yes hx
     have HT : Hid (taxS s x = (taxV s x, 0)) := if_pos (by rw [hok, hx]; rfl)
     obtain ⟨P, hP⟩ : ∃ P, partS s x = P := ⟨_, rfl⟩
     have HPD : Hid (partS s x = P) := hP
     have hd := mny_yes HOK.out.2.2.2.2.2.1
     have hPb : 0 ≤ P ∧ P ≤ 1125899906842624 := by rw [← hP]; unfold partS; omega
     have hPm : max (x - s.ded) 0 = P := hP
     have hcr := mny_yes HOK.out.2.2.2.2.2.2.1
     have hn10 : n ≤ 10 := by have := HOK.out.1.2; have := HN.out; omega
     have HUL : Hid (0 ≤ up_ s.bs P s.bs.length ∧ up_ s.bs P s.bs.length ≤ 10000 * P) := by
      show _ ∧ _
      have u1 := up_le (P := P) HOK.out.2.2.2.2.1 HOK.out.2.2.2.1 hPb.1 s.bs.length (Nat.le_refl _)
      have e : lft s.bs P s.bs.length = P := by unfold lft; rw [if_neg (Nat.lt_irrefl _)]
      rw [e] at u1
      exact ⟨up_nn HOK.out.2.2.2.2.1 _ (Nat.le_refl _), u1⟩
     have hded : -9223372036854775808 ≤ x - s.ded ∧ x - s.ded ≤ 9223372036854775807 := by omega
     clear hP
     go_enter Tryz.func156, Tryz.ntmps156
     go_wp2_with fail
     refine HRT.out.mono ?_; rintro e w1 ⟨rfl, hw1⟩
     have hbk1 := blk_below hbk hw1 (by simp)
     have HR1 := hyd (HR0.out.below hw1)
     have HW1 := hyd (HB0.out.trans (hw1.mono (by simp)))
     have hz1 := hw1.size
     simp only [World.size_alloc, Nat.add_one_le_iff] at hz1
     have HBK := hyd hbk1
     obtain ⟨d0, d1, d2, d3, d4, d5⟩ := cells6 hbk1
     rw [hok]
     clear hw1 hbk1 hbk hok
     go_wp2_with fail
     refine (isMoney_any x _).mono ?_; rintro e w' ⟨rfl, rfl⟩
     rw [hx]; clear hx
     go_upto_region 5 with fail
     go_cut [8] from 27 to 31 (fun v8 wx => v8 = .int .i64 P ∧ w1 = wx)
     case first =>
      go_wp2_with fail
      all_goals go_meet
      all_goals exact ⟨by go_num, rfl⟩
     case rest =>
      obtain ⟨rfl, rfl⟩ := hcut
      clear hPm hded
      go_wp2_with fail
      have hs0 := heap_alloc_new w1 (.cells #[.bool false, .int .u64 0, .int .u64 0, .int .u64 0, .int .u64 0] 47)
      have hbs := below_new w1 (.cells #[.bool false, .int .u64 0, .int .u64 0, .int .u64 0, .int .u64 0] 47)
      obtain ⟨gs, hgs⟩ : ∃ gs, gs = w1.heap.size := ⟨_, rfl⟩
      generalize w1.alloc (.cells #[.bool false, .int .u64 0, .int .u64 0, .int .u64 0, .int .u64 0] 47) = W at *
      rw [← hgs] at hs0 ⊢
      have hzW := hbs.size
      have hgW := blk_lt hs0
      have HS0 := hyd hs0; have HBS := hyd hbs; have HGS := hyd hgs
      have hwg : w.heap.size < gs := by omega
      clear hs0 hbs hgs d0 d1 d2 d3 d4 d5
      go_loopg [10, 12] n (fun g v10 v12 wr => ∃ (k : Nat) (nb : Bool) (m : Int), g = n - k ∧ k ≤ n ∧ v10 = .int .i64 k ∧ 0 ≤ m ∧ m ≤ k * 11258999068426240000 ∧ Hid (wz nb m = up_ s.bs P k) ∧
       Hid (wr.heap[gs]? = some (.cells #[.bool nb, .int .u64 (dg 0 m), .int .u64 (dg 1 m), .int .u64 (dg 2 m), .int .u64 (dg 3 m)] 47 (0, 0))) ∧ Below w1.heap.size w1 wr ∧ gs < wr.heap.size)
      case atStart => exact ⟨0, false, 0, rfl, by omega, rfl, by omega, by omega, rfl, HS0.out, HBS.out, hgW⟩
      case round =>
       obtain ⟨k, nb, m, hgk, hk, rfl, hm0, hm1, hwz, hsb, hbr, hgr⟩ := hrel
       have HG := hyd hgk; have HB := hyd hbr
       have hzr := hbr.size
       have hbk2 := blk_below HBK.out hbr (by omega)
       obtain ⟨d0, d1, d2, d3, d4, d5⟩ := cells6 hbk2
       clear hgk hbk2
       by_cases hlt : k < n
       · have hk' : k < s.bs.length := by have := HN.out; omega
         obtain ⟨b, off, rfl, hb, r0, r1⟩ := (HR1.out.below (hbr.mono (by simp; omega))).br hk' HN.out
         have hokb := HOK.out.2.2.2.2.1 k hk'
         obtain ⟨⟨f1, f2⟩, ⟨q1, q2⟩, _⟩ := hokb
         obtain ⟨F, hF⟩ : ∃ F, fr s.bs k = F := ⟨_, rfl⟩
         have HF := hyd hF
         obtain ⟨q, hq⟩ : ∃ q : Nat, bpA s.bs k = (q : Int) := ⟨(bpA s.bs k).toNat, by omega⟩
         have HQ := hyd hq
         rw [hF] at r0 f1 f2; rw [hq] at r1 q1 q2
         obtain ⟨T, hT⟩ : ∃ T, lft s.bs P (k + 1) = T := ⟨_, rfl⟩
         have HTT := hyd hT
         have hTb : 0 ≤ T ∧ T ≤ 1125899906842624 := by
          rw [← hT]; unfold lft; split
          · rename_i h2; have := (HOK.out.2.2.2.2.1 (k + 1) h2).1; omega
          · omega
         have HNX : Hid (k + 1 < n → ∃ NX, wr.cell? ⟨b, off + (k + 1) * 2, none⟩ = some (.int .i64 NX) ∧ T = min P NX) := by
          intro h2
          obtain ⟨b', off', e, _, z0, _⟩ := (HR1.out.below (hbr.mono (by simp; omega))).br (k := k + 1) (by have := HN.out; omega) HN.out
          simp only [Option.some.injEq, Addr.mk.injEq] at e
          obtain ⟨rfl, rfl, -⟩ := e
          exact ⟨_, z0, by rw [← hT]; unfold lft; rw [if_pos (by have := HN.out; omega)]⟩
         have HLAST : Hid (¬ k + 1 < n → T = P) := by
          intro h2; rw [← hT]; unfold lft; rw [if_neg (by have := HN.out; omega)]
         have HUS : Hid (up_ s.bs P (k + 1) = up_ s.bs P k + max (T - F) 0 * q) := by
          show _ = _; rw [up_step]; unfold piece; rw [HTT.out, HF.out, HQ.out]
         have j1 : (0 : Int) ≤ (k : Int) := by omega
         have j2 : (k : Int) < (n : Int) := by omega
         have hzb : b < wr.heap.size := by simp at hb; omega
         clear hF hq hT hbr
         have hwr0 : w.heap.size < wr.heap.size := by omega
         go_upto_if 51 with fail
         go_cut [12] from 46 to 60 (fun v12 wx => v12 = .int .i64 T ∧ wr.alloc (.cells #[.int .i64 F, .int .i64 q] 160) = wx)
         case first =>
          by_cases h2 : k + 1 < n
          · obtain ⟨NX, z0, hTe⟩ := HNX.out h2
            have i1 : (0 : Int) ≤ (k : Int) + 1 := by omega
            have i2 : (k : Int) + 1 < (n : Int) := by omega
            have i3 : ((k : Int) + 1).toNat = k + 1 := by omega
            by_cases h3 : P ≤ NX
            · have hTP : Hid (T = P) := by show _ = _; omega
              clear hTe
              go_wp2_with fail
              all_goals go_meet
              all_goals exact ⟨by first | (rw [hTP.out]; done) | (rw [hTP.out]; go_num), rfl⟩
            · have hTP : Hid (T = NX) := by show _ = _; omega
              clear hTe
              go_wp2_with fail
              all_goals go_meet
              all_goals exact ⟨by rw [hTP.out], rfl⟩
          · have hTP : Hid (T = P) := HLAST.out h2
            go_wp2_with fail
            go_meet
            exact ⟨by rw [hTP.out], rfl⟩
         case rest =>
          obtain ⟨rfl, rfl⟩ := hcut
          have hbb := heap_alloc_new wr (.cells #[.int .i64 F, .int .i64 q] 160)
          have hsb2 := blk_alloc hsb.out (.cells #[.int .i64 F, .int .i64 q] 160)
          have hbe := below_new wr (.cells #[.int .i64 F, .int .i64 q] 160)
          obtain ⟨gb, hgb⟩ : ∃ gb, gb = wr.heap.size := ⟨_, rfl⟩
          generalize wr.alloc (.cells #[.int .i64 F, .int .i64 q] 160) = W2 at *
          rw [← hgb] at hbb ⊢
          have HSB2 := hyd hsb2; have HBE := hyd hbe
          obtain ⟨c0, c1, c2, c3, c4, c5⟩ := blk5 hsb2
          obtain ⟨x0, x1, x2⟩ := cells2b hbb
          have hzg := blk_lt hsb2; have hzg2 := blk_lt hbb
          have hgbs : gs ≠ gb := by omega
          have HGB := hyd hgb
          have HXB := hbb
          clear hgb hsb2 hbe hbb d0 d1 d2 d3 d4 d5 r0 r1 HNX HLAST
          by_cases hFT : F < T
          · obtain ⟨I, hI⟩ : ∃ I : Nat, T - F = (I : Int) := ⟨(T - F).toNat, by omega⟩
            have hsI : IntKind.i64.wrap (T - F) = (I : Int) := by rw [IntWalk.i64_in _ (by omega)]; exact hI
            obtain ⟨M, hM⟩ : ∃ M : Int, (I : Int) * (q : Int) = M := ⟨_, rfl⟩
            have hMb : 0 ≤ M ∧ M ≤ 11258999068426240000 := by
             rw [← hM]
             exact ⟨Int.mul_nonneg (by omega) (by omega), Int.le_trans (Int.mul_le_mul_of_nonneg_right (show (I : Int) ≤ 1125899906842624 by omega) q1) (Int.mul_le_mul_of_nonneg_left q2 (by omega))⟩
            have HUM : Hid (up_ s.bs P (k + 1) = up_ s.bs P k + M) := by show _ = _; rw [HUS.out, show max (T - F) 0 = (I : Int) by omega, hM]
            have hoi := fun wx => of_nat2 (I : Int) wx (by omega) (by omega)
            have hoq := fun wx => of_nat2 (q : Int) wx (by omega) (by omega)
            have hmu := fun wx => wmul_any false false (I : Int) (q : Int) wx (by omega) (by omega)
            have had := fun wx => wadd_any nb false m M wx hm0 hMb.1 (by unfold big; omega)
            rw [hM] at hmu
            have hbm : (false != false) = false := rfl
            rw [hbm] at hmu
            obtain ⟨VA, hVA⟩ : ∃ V, wd false (I : Int) = V := ⟨_, rfl⟩
            obtain ⟨VX, hVX⟩ : ∃ V, wd false (q : Int) = V := ⟨_, rfl⟩
            obtain ⟨VM, hVM⟩ : ∃ V, wd false M = V := ⟨_, rfl⟩
            rw [hVA] at hoi hmu; rw [hVX] at hoq hmu; rw [hVM] at hmu had
            have HOI := hyd hoi; have HOQ := hyd hoq; have HMU := hyd hmu; have HAD := hyd had
            have HMB := hyd hMb; have HM0 := hyd hm0; have HM1 := hyd hm1
            clear hoi hoq hmu had hVA hVX hVM hM hI hMb hm0 hm1 hbm
            have xw : W2.cell? ⟨gs, 0, none⟩ = some (.bool nb) ∧ W2.cell? ⟨gs, 1, none⟩ = some (.int .u64 (dg 0 m)) ∧ W2.cell? ⟨gs, 2, none⟩ = some (.int .u64 (dg 1 m)) ∧ W2.cell? ⟨gs, 3, none⟩ = some (.int .u64 (dg 2 m)) ∧ W2.cell? ⟨gs, 4, none⟩ = some (.int .u64 (dg 3 m)) ∧ W2.cell? ⟨gb, 0, none⟩ = some (.int .i64 F) ∧ W2.cell? ⟨gb, 1, none⟩ = some (.int .i64 q) := ⟨c0, c1, c2, c3, c4, x0, x1⟩
            have HXW2 := hyd HXB
            go_upto_region 15 with fail
            have HKW2 := HSB2
            go_region_with (first
             | (go_at_call 16; first
                 | ((with_reducible refine (HOI.out _).mono ?_); rintro e w1a ⟨rfl, hw1a⟩; have HB1a : Hid (Below W2.heap.size W2 w1a) := hyd (by first | (with_reducible exact hw1a) | (with_reducible exact below_drew hw1a) | exact hw1a); clear hw1a; have HK1a := hyd (blk_below HKW2.out HB1a.out (blk_lt HKW2.out)); have HX1a := hyd (blk_below HXW2.out HB1a.out (blk_lt HXW2.out)); obtain ⟨c0, c1, c2, c3, c4, c5⟩ := blk5 HK1a.out; obtain ⟨x0, x1, x2⟩ := cells2b HX1a.out)
                 | ((with_reducible refine (HOQ.out _).mono ?_); rintro e w3a ⟨rfl, hw3a⟩; have HB3a : Hid (Below w1a.heap.size w1a w3a) := hyd (by first | (with_reducible exact hw3a) | (with_reducible exact below_drew hw3a) | exact hw3a); clear hw3a; have HK3a := hyd (blk_below HK1a.out HB3a.out (blk_lt HK1a.out)); have HX3a := hyd (blk_below HX1a.out HB3a.out (blk_lt HX1a.out)); obtain ⟨c0, c1, c2, c3, c4, c5⟩ := blk5 HK3a.out; obtain ⟨x0, x1, x2⟩ := cells2b HX3a.out))
             | (go_at_call 158; refine (HMU.out _).mono ?_; rintro e w4a ⟨rfl, hw4a⟩; have HB4a : Hid (Below w3a.heap.size w3a w4a) := hyd (by first | (with_reducible exact hw4a) | (with_reducible exact below_drew hw4a) | exact hw4a); clear hw4a; have HK4a := hyd (blk_below HK3a.out HB4a.out (blk_lt HK3a.out)); have HX4a := hyd (blk_below HX3a.out HB4a.out (blk_lt HX3a.out)); obtain ⟨c0, c1, c2, c3, c4, c5⟩ := blk5 HK4a.out; obtain ⟨x0, x1, x2⟩ := cells2b HX4a.out)
             | (go_at_call 23; refine (HAD.out _).mono ?_; intro e w5a h5; obtain ⟨n2, m2, rfl, hm20, hm21, hwz2, hw5a⟩ := Wide.pre h5; clear h5; have HB5a : Hid (Below w4a.heap.size w4a w5a) := hyd (by first | (with_reducible exact hw5a) | (with_reducible exact below_drew hw5a) | exact hw5a); clear hw5a; have HK5a := hyd (blk_below HK4a.out HB5a.out (blk_lt HK4a.out)); have HX5a := hyd (blk_below HX4a.out HB5a.out (blk_lt HX4a.out)); obtain ⟨c0, c1, c2, c3, c4, c5⟩ := blk5 HK5a.out; obtain ⟨x0, x1, x2⟩ := cells2b HX5a.out))
            all_goals go_wp2_with fail
            all_goals
             have hbn : Below w1.heap.size w1 w5a := (HB.out.trans (HBE.out.mono HB.out.size)).trans ((below_4 HB1a.out HB3a.out HB4a.out HB5a.out).mono (by have := HBE.out.size; omega))
             have HSN := hyd (set5_blk HK5a.out (.bool n2) (.int .u64 (dg 0 m2)) (.int .u64 (dg 1 m2)) (.int .u64 (dg 2 m2)) (.int .u64 (dg 3 m2)))
             have hgz : gs < w5a.heap.size := blk_lt HK5a.out
             go_roundg (n - (k + 1))
             case measure => have := HG.out; omega
             case rel => exact ⟨k + 1, n2, m2, rfl, by omega, by go_num, hm20, by have := HMB.out; have := HM1.out; omega, by show _ = _; rw [HUM.out, hwz2.out, hwz.out]; rfl, HSN.out, below_set5 hbn (by have := HGS.out; omega) _ _ _ _ _, by simpa [World.setCell] using hgz⟩
          · have HUM : Hid (up_ s.bs P (k + 1) = up_ s.bs P k) := by show _ = _; rw [HUS.out, show max (T - F) 0 = 0 by omega, Int.zero_mul]; omega
            go_wp2_with fail
            go_roundg (n - (k + 1))
            case measure => have := HG.out; omega
            case rel => exact ⟨k + 1, nb, m, rfl, by omega, by go_num, hm0, by omega, by show _ = _; rw [HUM.out]; exact hwz.out, HSB2.out, HB.out.trans (HBE.out.mono HB.out.size), hzg⟩
       · have hkn : k = n := by omega
         subst hkn
         obtain ⟨c0, c1, c2, c3, c4, c5⟩ := blk5 hsb.out
         have hmb : m < big := by unfold big; omega
         have HDV := hyd (wdiv_any nb m 10000 wr hm0 hmb (by omega) (by omega))
         go_wp2_with fail
         refine HDV.out.mono ?_; intro e w2 h2; obtain ⟨n', q, rfl, q0, q1, hwq, hw2⟩ := DivRes.pre2 h2; clear h2
         have hbt := HB.out.trans (hw2.mono hzr)
         have HB2 := hyd hbt
         have hz2 := hw2.size
         have hbk2 := blk_below HBK.out hbt (by omega)
         obtain ⟨d0, d1, d2, d3, d4, d5⟩ := cells6 hbk2
         have HTD := hyd (fun wx => wtold_any n' q wx q0 (by omega))
         have hqv : wz n' q = up_ s.bs P s.bs.length / 10000 := by rw [hwq.out, hwz.out, HN.out]
         have hqt : told (wz n' q) = (up_ s.bs P s.bs.length / 10000, 0) := by rw [hqv]; exact told_yes (by have := HUL.out; simp [amt]; omega)
         have hwb : w.heap.size < w2.heap.size := by omega
         clear hw2 hbk2 hbt
         go_wp2_with fail
         refine (HTD.out _).mono ?_; rintro e w3 ⟨rfl, hw3⟩
         rw [hqt]
         have hd2 := keep_cell2 (p := ⟨w.heap.size, 2, none⟩) d2 HB2.out hw3
         have HB3 : Hid (Below w.heap.size w w3) := ((HW1.out.trans (HB2.out.mono HW1.out.size)).trans ((Below.mono (below_new w2 _) (by have := HW1.out.size; omega)).trans (hw3.mono (by simp; have := HW1.out.size; omega))))
         have HUP := HUL.out
         have HTV : Hid (taxV s x = max (up_ s.bs P s.bs.length / 10000 - s.cred) 0) := by show _ = _; unfold taxV; rw [HPD.out]
         have hUb : 0 ≤ up_ s.bs P s.bs.length / 10000 ∧ up_ s.bs P s.bs.length / 10000 ≤ 1125899906842624 := by omega
         clear HUP HUL HTD hqv hqt
         generalize up_ s.bs P s.bs.length / 10000 = U at *
         go_wp2_with fail
         all_goals go_ret2
         all_goals exact ⟨ret_pr (by rw [HT.out, HTV.out]; exact Prod.ext (by simp only; omega) rfl), HB3.out⟩
   · have HT : Hid (taxS s x = (0, 1)) := if_neg (by simp [hx])
     go_enter Tryz.func156, Tryz.ntmps156
     go_wp2_with fail
     refine HRT.out.mono ?_; rintro e w1 ⟨rfl, hw1⟩
     have HW1 := hyd (HB0.out.trans (hw1.mono (by simp)))
     rw [hok]
     clear hw1 hbk hok
     go_wp2_with fail
     refine (isMoney_any x _).mono ?_; rintro e w' ⟨rfl, rfl⟩
     rw [Bool.eq_false_iff.2 hx]; clear hx
     go_wp2_with fail
     go_ret2
     exact ⟨ret_pr HT.out, HW1.out⟩
 · have HT : Hid (taxS s x = (0, 1)) := if_neg (by simp [hok])
   go_enter Tryz.func156, Tryz.ntmps156
   go_wp2_with fail
   refine HRT.out.mono ?_; rintro e w1 ⟨rfl, hw1⟩
   have HW1 := hyd (HB0.out.trans (hw1.mono (by simp)))
   rw [Bool.eq_false_iff.2 hok]
   clear hw1 hbk hok
   go_wp2_with fail
   refine (isMoney_any x _).mono ?_; rintro e w' ⟨rfl, rfl⟩
   go_wp2_with fail
   go_ret2
   exact ⟨ret_pr HT.out, HW1.out⟩
def WideAtE (q r : Int) (w : World) (vp vr : Value) (wx : World) : Prop := ∃ (g : Nat) (n' : Bool) (m : Int), vp = .pointer (some ⟨g, 0, none⟩) ∧ vr = .int .i64 r ∧ wx.heap[g]? = some (.cells #[.bool n', .int .u64 (dg 0 m), .int .u64 (dg 1 m), .int .u64 (dg 2 m), .int .u64 (dg 3 m)] 47 (0, 0)) ∧ 0 ≤ m ∧ m < big ∧ wz n' m = q ∧ w.heap.size ≤ g ∧ Below w.heap.size w wx
theorem new_belowE {P w' : World} {o : Obj} (hb : Below (P.alloc o).heap.size (P.alloc o) w') : w'.heap[P.heap.size]? = some o := blk_below (blk_new P o rfl) hb (by simp)
theorem new_belowdE {P w' : World} {o : Obj} (hb : Below (P.alloc o).drew.heap.size (P.alloc o).drew w') : w'.heap[P.heap.size]? = some o := new_belowE ⟨hb.os, hb.tape, hb.output, hb.size, hb.block⟩
theorem bel_dE {P w' : World} (h : Below P.drew.heap.size P.drew w') : Below P.heap.size P w' := ⟨h.os, h.tape, h.output, h.size, h.block⟩
theorem bel_aE {P w' : World} {o : Obj} (h : Below (P.alloc o).heap.size (P.alloc o) w') : Below P.heap.size P w' := (below_new P o).trans (h.mono (by simp))
theorem bel4E {P w1 w3 w4 w5 : World} (h1 : Below P.heap.size P w1) (h3 : Below w1.heap.size w1 w3) (h4 : Below w3.heap.size w3 w4) (h5 : Below w4.heap.size w4 w5) : Below P.heap.size P w5 :=
 have a := h1.trans (h3.mono h1.size)
 have b := a.trans (h4.mono a.size)
 b.trans (h5.mono b.size)
theorem wide_endE {q r r' : Int} {wr W : World} {g : Nat} {n' : Bool} {m : Int} {v0 v1 v2 v3 v4 : Value} (hb : Below wr.heap.size wr W) (hg : W.heap[g]? = some (.cells #[v0, v1, v2, v3, v4] 47 (0, 0))) (hl : wr.heap.size ≤ g)
  (h0 : 0 ≤ m) (h1 : m < big) (hq : wz n' m = q) (hr : r' = r) : WideAtE q r wr (.pointer (some ⟨g, 0, none⟩)) (.int .i64 r') (((((W.setCell ⟨g, 0, none⟩ (.bool n')).setCell ⟨g, 1, none⟩ (.int .u64 (dg 0 m))).setCell ⟨g, 2, none⟩ (.int .u64 (dg 1 m))).setCell ⟨g, 3, none⟩ (.int .u64 (dg 2 m))).setCell ⟨g, 4, none⟩ (.int .u64 (dg 3 m))) := by
 subst hr
 exact ⟨g, n', m, rfl, rfl, set5_blk hg _ _ _ _ _, h0, h1, hq, hl, ((((hb.setCell hl _).setCell hl _).setCell hl _).setCell hl _).setCell hl _⟩
theorem wide_end0E {q r r' : Int} {wr W : World} {n' : Bool} {m : Int} (hb : Below wr.heap.size wr W)
  (h0 : 0 ≤ m) (h1 : m < big) (hq : wz n' m = q) (hr : r' = r) : WideAtE q r wr (.pointer (some ⟨W.heap.size, 0, none⟩)) (.int .i64 r') (W.alloc (.cells #[.bool n', .int .u64 (dg 0 m), .int .u64 (dg 1 m), .int .u64 (dg 2 m), .int .u64 (dg 3 m)] 47)) := by
 subst hr
 exact ⟨_, n', m, rfl, rfl, blk_new _ _ rfl, h0, h1, hq, hb.size, hb.alloc hb.size _⟩
theorem keep3E {W w1 : World} {p q s : Addr} {u v x : Value} (hs : W.cell? p = some u ∧ W.cell? q = some v ∧ W.cell? s = some x) (hb : Below W.heap.size W w1) : w1.cell? p = some u ∧ w1.cell? q = some v ∧ w1.cell? s = some x :=
 ⟨(hb.cell (World.block_lt_of_cell? _ _ hs.1)).trans hs.1, (hb.cell (World.block_lt_of_cell? _ _ hs.2.1)).trans hs.2.1, (hb.cell (World.block_lt_of_cell? _ _ hs.2.2)).trans hs.2.2⟩
theorem alloc3E {W : World} {p q s : Addr} {u v x : Value} (hs : W.cell? p = some u ∧ W.cell? q = some v ∧ W.cell? s = some x) (o : Obj) : (W.alloc o).cell? p = some u ∧ (W.alloc o).cell? q = some v ∧ (W.alloc o).cell? s = some x :=
 keep3E hs (below_new W o)
theorem drew3E {W : World} {p q s : Addr} {u v x : Value} (hs : W.cell? p = some u ∧ W.cell? q = some v ∧ W.cell? s = some x) : W.drew.cell? p = some u ∧ W.drew.cell? q = some v ∧ W.drew.cell? s = some x := hs
theorem far5E {W : World} {p : Addr} {u : Value} {g : Nat} (hs : W.cell? p = some u) (hne : p.block ≠ g) {v0 v1 v2 v3 v4 : Value} : (((((W.setCell ⟨g, 0, none⟩ v0).setCell ⟨g, 1, none⟩ v1).setCell ⟨g, 2, none⟩ v2).setCell ⟨g, 3, none⟩ v3).setCell ⟨g, 4, none⟩ v4).cell? p = some u := by
 have h : ∀ (w : World) (j : Nat) (v : Value), (w.setCell ⟨g, j, none⟩ v).cell? p = w.cell? p := fun w j v => World.cell?_of_block (Below.heap_setCell w ⟨g, j, none⟩ v p.block (fun e => hne e))
 rw [h, h, h, h, h]; exact hs
theorem set5_3E {W : World} {p q s : Addr} {u v x : Value} {g B : Nat} (hs : W.cell? p = some u ∧ W.cell? q = some v ∧ W.cell? s = some x) (hp : p.block < B ∧ q.block < B ∧ s.block < B) (hg : B ≤ g) (v0 v1 v2 v3 v4 : Value) :
  (((((W.setCell ⟨g, 0, none⟩ v0).setCell ⟨g, 1, none⟩ v1).setCell ⟨g, 2, none⟩ v2).setCell ⟨g, 3, none⟩ v3).setCell ⟨g, 4, none⟩ v4).cell? p = some u ∧ (((((W.setCell ⟨g, 0, none⟩ v0).setCell ⟨g, 1, none⟩ v1).setCell ⟨g, 2, none⟩ v2).setCell ⟨g, 3, none⟩ v3).setCell ⟨g, 4, none⟩ v4).cell? q = some v ∧ (((((W.setCell ⟨g, 0, none⟩ v0).setCell ⟨g, 1, none⟩ v1).setCell ⟨g, 2, none⟩ v2).setCell ⟨g, 3, none⟩ v3).setCell ⟨g, 4, none⟩ v4).cell? s = some x := by
 obtain ⟨h1, h2, h3⟩ := hp
 exact ⟨by rw [far5E hs.1 (by omega)], by rw [far5E hs.2.1 (by omega)], by rw [far5E hs.2.2 (by omega)]⟩
end Go.Proofs.YtbjjgnaojoaoiaaGreat
