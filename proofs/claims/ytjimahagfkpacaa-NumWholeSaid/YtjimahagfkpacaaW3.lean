/- num.Split. -/
import Derived.Test.YtjimahagfkpacaaW2
import Derived.Deep.DeepCutAuto
import Derived.Deep.CutBlock
namespace Go.Proofs.Ytjimahagfkpacaa
open Go.RowKit Go
set_option linter.unusedVariables false
set_option linter.unusedSimpArgs false

def Two (n g1 g2 : Nat) (w wc : World) : Prop := wc.heap[g1]? = some (.cells (ints (List.replicate n 0)).toArray 2 (0, 0)) ∧ wc.heap[g2]? = some (.cells (ints (List.replicate n 0)).toArray 3 (0, 0)) ∧ g1 ≠ g2 ∧ w.heap.size ≤ g1 ∧ w.heap.size ≤ g2 ∧ Below w.heap.size w wc
set_option maxHeartbeats 6400000 in
set_option maxRecDepth 100000 in
theorem split_any (a : Int) (A : Option Addr) (ws : List Int) (n c : Nat) (w : World) (hn : ws.length = n) (hr : Rd w w.heap.size 1 A n (ints ws)) (hm : n ≤ maxLen) :
    Calls Try.prog 18 #[.int .i64 a, .slice A n c] w (SplitOf a ws w) := by
  unfold maxLen at hm
  have HN := Lib.hid hn; have HR := Lib.hid hr; clear hn hr
  by_cases ha : amt a = true
  · have HA := Lib.hid ha
    by_cases h1 : 1 ≤ n
    · by_cases h2 : n ≤ 64
      · clear ha
        have i1 : ¬ (n : Int) < 1 := by omega
        have i2 : ¬ 64 < (n : Int) := by omega
        go_enter Try.func18, Try.ntmps18
        go_wp2_with fail
        refine (is1 a w).mono ?_; rintro e w' ⟨rfl, rfl⟩
        rw [HA.out]
        have HB0 := Lib.hid (below_new w (.cells #[.int .i64 a] 2))
        have HR0 := Lib.hid ((HR.out.below HB0.out).wider HB0.out.size)
        generalize w.alloc (.cells #[.int .i64 a] 2) = W at *
        go_wp2_with fail
        refine (min_any A ws n c W HR0.out h1 (by omega)).mono ?_
        rintro e w' ⟨m, hmin, rfl, rfl⟩
        have HMIN := Lib.hid hmin; clear hmin
        by_cases hneg : m < 0
        · have HE := Lib.hid (okSp_neg (a := a) HMIN.out hneg)
          go_wp2_with fail
          go_ret2
          exact SplitOf.no HE.out HB0.out
        · have hpos : 0 ≤ m := by omega
          go_wp2_with fail
          refine (sum_n A n c ws W HR0.out (by omega)).mono ?_; rintro e w2 ⟨rfl, hw2⟩
          have HB2 := Lib.hid (HB0.out.trans (hw2.mono HB0.out.size))
          have HR2 := Lib.hid (HR0.out.below hw2 |>.wider hw2.size)
          have hz2 := HB2.out.size
          clear hw2
          by_cases hs : (sumS ws).2 = 0 ∧ (sumS ws).1 ≠ 0
          · have HOK := Lib.hid (okSp_yes HA.out (by rw [HN.out]; exact ⟨h1, h2⟩) HMIN.out hpos hs)
            obtain ⟨p1, p2, p3, p4, p5, p6, p7⟩ := okSp_parts HOK.out
            rw [p6]
            have HT := Lib.hid (rfl : ws.sum = ws.sum)
            have hTa := amt_yes p5
            have hA := amt_yes HA.out
            have HLE : Hid (∀ x ∈ ws, 0 ≤ x ∧ x ≤ ws.sum) := Lib.hid (fun x hx => ⟨p3 x hx, le_sum p3 hx⟩)
            have HPS : Hid (∀ k, -4611686018427389000 ≤ (quoS a ws.sum (ws.take k)).sum ∧ (quoS a ws.sum (ws.take k)).sum ≤ 4611686018427387904) := Lib.hid (fun k => prefix_sum p7 p3 rfl hA (by rw [HN.out]; omega) k)
            have HPL : Hid (∀ k, a - (quoS a ws.sum (ws.take k)).sum ≤ 4611686018427388904) := Lib.hid (fun k => prefix_left p7 p3 rfl hA (by rw [HN.out]; omega) k)
            have HLF : Hid (∃ k : Nat, a - (quoS a ws.sum ws).sum = k ∧ k < ws.length) := Lib.hid (left_ex p7 rfl (by rw [HN.out]; exact h1))
            have htne : (ws.sum == 0) = false := by simp; omega
            clear p1 p2 p3 p4 p5 p6 hs hneg HMIN i1 i2
            generalize hTd : ws.sum = T at *
            have HTD := Lib.hid hTd; clear hTd
            have hmk1 := run_make_row' (P := Try.prog) 27 2 (.int .i64 0) 8 Try.underlying27 info_n64 rfl .i64 .i64 n (by omega) (by omega)
            have hmk2 := run_make_row' (P := Try.prog) 52 3 (.int .i64 0) 8 Try.underlying52 info_nint rfl .i64 .i64 n (by omega) (by omega)
            rw [made_intsW] at hmk1 hmk2
            have HMK1 := Lib.hid hmk1; have HMK2 := Lib.hid hmk2
            clear hmk1 hmk2
            go_upto_region 6 with fail
            go_cut [8, 9] from 46 to 51 (fun v8 v9 wc => ∃ g1 g2 : Nat, v8 = .slice (some ⟨g1, 0, none⟩) n n ∧ v9 = .slice (some ⟨g2, 0, none⟩) n n ∧ Two n g1 g2 w2 wc)
            case first =>
              have hmk1 := HMK1.out; have hmk2 := HMK2.out
              go_region
              all_goals clear hmk1 hmk2
              all_goals go_wp2_with fail
              all_goals go_meet
              · exact ⟨_, _, rfl, rfl, by first | exact blk_alloc (blk_new w2 _ rfl) _ | exact blk_new _ _ (by simp), by first | exact blk_new _ _ (by simp) | exact blk_alloc (blk_new w2 _ rfl) _, by simp, by simp, by simp, by exact ((((Below.refl _ _).alloc (Nat.le_refl _) _).alloc (by simp) _).drew)⟩
              · exact ⟨_, _, rfl, rfl, by first | exact blk_alloc (blk_new w2 _ rfl) _ | exact blk_new _ _ (by simp), by first | exact blk_new _ _ (by simp) | exact blk_alloc (blk_new w2 _ rfl) _, by simp, by simp, by simp, by exact ((((Below.refl _ _).alloc (Nat.le_refl _) _).alloc (by simp) _).drew)⟩
            case rest =>
              obtain ⟨g1, g2, rfl, rfl, htwo⟩ := hcut
              have HTWO := Lib.hid htwo; clear htwo
              have hmk1 := HMK1.out
              go_wp2_with fail
              clear hmk1
              have hdiv0 : Div a T ws n g1 g2 wc.heap.size (wc.heap.size + 1) 0 w2 ((wc.alloc (.cells (ints (List.replicate n 0)).toArray 2)).alloc (.cells #[.slice (some ⟨wc.heap.size, 0, none⟩) n n] 27)) := by
                obtain ⟨t1, t2, t3, t4, t5, t6⟩ := HTWO.out
                refine ⟨?_, ?_, ?_, ?_, ?_⟩
                · have e : half (quoS a T (ws.take 0)) n = List.replicate n 0 := half_nil n
                  rw [e]; exact blk_alloc (blk_alloc t1 _) _
                · have e : half (rstS a T (ws.take 0)) n = List.replicate n 0 := half_nil n
                  rw [e]; exact blk_alloc (blk_new _ _ rfl) _
                · have e : half (upToW 0) n = List.replicate n 0 := half_nil n
                  rw [e]; exact blk_alloc (blk_alloc t2 _) _
                · exact blk_new _ _ (by simp)
                · exact (t6.alloc t6.size _).alloc (by have := t6.size; simp; omega) _
              have hap : Apart4 g1 g2 wc.heap.size (wc.heap.size + 1) w2.heap.size := by
                obtain ⟨t1, t2, t3, t4, t5, t6⟩ := HTWO.out
                have l1 := blk_lt t1; have l2 := blk_lt t2; have := t6.size
                exact ⟨t3, by omega, by omega, by omega, by omega, by omega, t4, t5, by omega, by omega⟩
              have HAP := Lib.hid hap
              have HDIV := Lib.hid hdiv0
              clear hap hdiv0
              obtain ⟨gr, hgr⟩ : ∃ gr, gr = wc.heap.size := ⟨_, rfl⟩
              obtain ⟨gb, hgb⟩ : ∃ gb, gb = wc.heap.size + 1 := ⟨_, rfl⟩
              generalize (wc.alloc (.cells (ints (List.replicate n 0)).toArray 2)).alloc (.cells #[.slice (some ⟨wc.heap.size, 0, none⟩) n n] 27) = W3 at *
              rw [← hgb] at HDIV HAP ⊢
              rw [← hgr] at HDIV HAP ⊢
              clear hgr hgb
              go_loopg [11, 58] n (fun gh vl vi wr => ∃ k : Nat, gh = n - k ∧ k ≤ n ∧ vi = .int .i64 k ∧ vl = .int .i64 (a - (quoS a T (ws.take k)).sum) ∧ Div a T ws n g1 g2 gr gb k w2 wr)
              case atStart => exact ⟨0, rfl, by omega, rfl, by simp [quoS], HDIV.out⟩
              case round =>
                obtain ⟨k, hgk, hk, rfl, rfl, hdv⟩ := hrel
                have HG := Lib.hid hgk; have HD := Lib.hid hdv
                clear hgk hdv
                by_cases hlt : k < n
                · have hk' : k < ws.length := by have := HN.out; omega
                  obtain ⟨bw, ow, rfl, hbw, xw⟩ := (HR2.out.below HD.out.bel).numW hk'
                  have hx01 := HLE.out ws[k] (List.getElem_mem hk')
                  have HDS := Lib.hid (divS_split hA p7 hx01.1 hx01.2)
                  have HFI := Lib.hid (fine_split hA hx01.1 hx01.2)
                  have HSU : Hid ((quoS a T (ws.take (k + 1))).sum = (quoS a T (ws.take k)).sum + a * ws[k] / T) := Lib.hid (by rw [quoS_take _ _ _ _ hk', List.sum_append]; simp)
                  have hqb := quo_bound p7 hx01.1 hx01.2 hA
                  have hrb1 := Int.emod_nonneg (a * ws[k]) (show T ≠ 0 by omega)
                  have hrb2 := Int.emod_lt_of_pos (a * ws[k]) p7
                  have hp1 := HPS.out k
                  have hp2 := HPS.out (k + 1)
                  have hp3 := HPL.out (k + 1)
                  rw [HSU.out] at hp2 hp3
                  have HX := Lib.hid (rfl : ws[k] = ws[k])
                  generalize hxd : ws[k] = x at *
                  have HXD := Lib.hid hxd; clear hxd
                  generalize hqd : a * x / T = q at *
                  generalize hrd : a * x % T = r at *
                  generalize hsd : (quoS a T (ws.take k)).sum = S at *
                  have HQD := Lib.hid hqd; have HRD := Lib.hid hrd; have HSD := Lib.hid hsd
                  clear hqd hrd hsd HX
                  obtain ⟨hx0, hx1⟩ := hx01
                  have l1 : (quoS a T (ws.take k)).length = k := by rw [quoS_len, List.length_take]; omega
                  have l2 : (rstS a T (ws.take k)).length = k := by rw [rstS_len, List.length_take]; omega
                  have c1 := blk_int (n := n) HD.out.out (k := k) (by rw [half_len _ (by omega)]; exact hlt)
                  have c2 := blk_int (n := n) HD.out.rst (k := k) (by rw [half_len _ (by omega)]; exact hlt)
                  have c3 : wr.cell? ⟨g2, k, none⟩ = some (.int .i64 ((half (upToW k) n)[k]'(by rw [half_len _ (by rw [upToW_len]; omega)]; exact hlt))) := by
                    rw [blk_cell HD.out.ord, List.getElem?_toArray, ints_at _ _ (by rw [half_len _ (by rw [upToW_len]; omega)]; exact hlt)]
                  rw [half_at _ l1 hlt] at c1
                  rw [half_at _ l2 hlt] at c2
                  rw [half_at _ (upToW_len k) hlt] at c3
                  have f1 := blk_free HD.out.out k
                  have f2 := blk_free HD.out.rst k
                  have f3 := blk_free HD.out.ord k
                  have c4 : wr.cell? ⟨gb, 0, none⟩ = some (.slice (some ⟨gr, 0, none⟩) n n) := blk_cell HD.out.box 0
                  have z1 := blk_lt HD.out.out
                  have z2 := blk_lt HD.out.rst
                  have z3 := blk_lt HD.out.ord
                  have z4 := blk_lt HD.out.box
                  have a1 := HAP.out.a12; have a2 := HAP.out.a1r; have a3 := HAP.out.a1b; have a4 := HAP.out.a2r; have a5 := HAP.out.a2b; have a6 := HAP.out.arb
                  have a1' := Ne.symm a1; have a2' := Ne.symm a2; have a3' := Ne.symm a3; have a4' := Ne.symm a4; have a5' := Ne.symm a5; have a6' := Ne.symm a6
                  have i1 : (0 : Int) ≤ (k : Int) := by omega
                  have i2 : (k : Int) < (n : Int) := by omega
                  have i3 : -9223372036854775808 ≤ a - S - q := by omega
                  have i4 : a - S - q ≤ 9223372036854775807 := by omega
                  have HDC := Lib.hid (fun wx => divided_any a x T wx hA (by omega) (by omega) (by omega) HFI.out)
                  clear l1 l2 hp1 hp2 hp3
                  go_wp2_with fail
                  clear xw
                  go_upto_region 13 with fail
                  go_cut [63] from 64 to 76 (fun v63 wx => ∃ w3, Mid g1 gr k q r wr w3 wx)
                  case first =>
                    go_region_held3 (fun w' => w'.cell? ⟨gb, 0, none⟩ = some (.slice (some ⟨gr, 0, none⟩) n n))
                      ((first | (with_reducible exact c4) | exact c4 | exact k4 | exact far_cell k4 a3' _ | exact far_cell k4 a6' _ | exact far_cell (far_cell k4 a3' _) a6' _ | exact far_cell (far_cell k4 a6' _) a3' _))
                      ((go_at_call 33; refine (HDC.out _).mono ?_; rintro e w3 ⟨rfl, hw3⟩; rw [HDS.out]; obtain ⟨hc3, hf3⟩ := bcell hw3; have hz3 := hw3.size; (try simp only [World.size_alloc, World.size_setCell, World.size_drew, size_drewN] at hz3); have y1 := Nat.lt_of_lt_of_le z1 hz3; have y2 := Nat.lt_of_lt_of_le z2 hz3; have y3 := Nat.lt_of_lt_of_le z3 hz3; have y4 := Nat.lt_of_lt_of_le z4 hz3; have HW3 := Lib.hid hw3; clear hw3; have k1 := (hc3 g1 k z1).trans c1; have k2 := (hc3 gr k z2).trans c2; have k4 := (hc3 gb 0 z4).trans c4; have m1 := (hf3 g1 k z1).trans f1; have m2 := (hf3 gr k z2).trans f2))
                    go_wp2_with fail
                    go_meet
                    exact ⟨w3, (Below.refl _ _).drew.trans HW3.out, _, .inl rfl, by first | exact .inl rfl | exact .inr rfl⟩
                  case rest =>
                    obtain ⟨w3, hmid⟩ := hcut
                    have HM := Lib.hid hmid
                    obtain ⟨d1, d2, d3⟩ := hmid.facts HD.out HAP.out hlt HN.out
                    clear hmid c1 c2 c3 c4 f1 f2 f3
                    go_wp2_with fail
                    go_roundg (n - (k + 1))
                    case measure => have := HG.out; omega
                    case rel =>
                      refine ⟨k + 1, rfl, by omega, by go_num, ?_, ?_⟩
                      · rw [HSU.out, show a - (S + q) = a - S - q by omega]
                      · have hm := HM.out
                        rw [← HQD.out, ← HRD.out] at hm
                        exact hm.step HD.out HAP.out hk' HN.out HXD.out
                · have hkn : k = n := by omega
                  subst hkn
                  have htk : ws.take k = ws := List.take_of_length_le (by rw [HN.out]; exact Nat.le_refl _)
                  obtain ⟨kk, e1, e2⟩ := HLF.out
                  have e0 : a - (quoS a T (ws.take k)).sum = (kk : Int) := by rw [htk]; exact e1
                  rw [e0]
                  have hd := HD.out
                  have hout := hd.out
                  rw [htk, half_full _ (by rw [quoS_len]; exact HN.out)] at hout
                  have hrst := hd.rst
                  rw [htk, half_full _ (by rw [rstS_len]; exact HN.out)] at hrst
                  have hord := hd.ord
                  rw [half_full _ (upToW_len k)] at hord
                  have HSO := Lib.hid (sortStable_any g2 gb gr k (rstS a T ws) (upToW k) wr wr ⟨Ne.symm HAP.out.a2b, Ne.symm HAP.out.a2r, hd.box, hrst, by rw [rstS_len]; exact HN.out⟩ ⟨OnlyB.refl _ _, hord, upToW_len k⟩ (upToW_idn k) h2)
                  have HBR := Lib.hid hd.bel
                  have HOUT := Lib.hid hout
                  have E1 := Lib.hid e1
                  have hkk : kk < k := by rw [HN.out] at e2; exact e2
                  clear e0 e1 e2 hd hout hrst hord htk hlt HG
                  have i1 : (0 : Int) ≤ (kk : Int) := by omega
                  have i2 : (kk : Int) ≤ (k : Int) := by omega
                  have i3 : kk ≤ k := by omega
                  unfold clo at HSO
                  go_wp2_with fail
                  refine HSO.out.mono ?_
                  rintro e w4 ⟨rfl, d, hpin, hsrt, hat⟩
                  have HPIN := Lib.hid hpin; have HSRT := Lib.hid hsrt; have HAT := Lib.hid hat
                  have HPLD : Hid (Pl k d) := Lib.hid hpin.perm
                  have HB4 : Hid (Below w2.heap.size w2 w4) := Lib.hid (OnlyB.to_below HBR.out hat.only HAP.out.b2)
                  have HO4 : Hid (w4.heap[g1]? = some (.cells (ints (topS (quoS a T ws) d 0)).toArray 2 (0, 0))) := Lib.hid (by rw [topS_zero]; exact (hat.only.block g1 HAP.out.a12).trans HOUT.out)
                  clear hpin hsrt hat
                  go_wp2_with fail
                  go_loopg [95] kk (fun gh vi wx => ∃ j : Nat, gh = kk - j ∧ j ≤ kk ∧ vi = .int .i64 j ∧ wx.heap[g1]? = some (.cells (ints (topS (quoS a T ws) d j)).toArray 2 (0, 0)) ∧ OnlyB g1 w4 wx)
                  case atStart => exact ⟨0, rfl, by omega, rfl, HO4.out, OnlyB.refl _ _⟩
                  case round =>
                    obtain ⟨j, hgj, hj, rfl, hob, hon⟩ := hrel
                    have HGJ := Lib.hid hgj; have HOB := Lib.hid hob; have HON := Lib.hid hon
                    clear hgj hob hon
                    by_cases hlt : j < kk
                    · have hjd : j < d.length := by rw [HPLD.out.len]; omega
                      obtain ⟨p, ep, hp⟩ := HPLD.out.at hjd
                      have hpq : p < (quoS a T ws).length := by rw [quoS_len, HN.out]; exact hp
                      have cd : wr.cell? ⟨g2, j, none⟩ = some (.int .i64 (p : Int)) := by
                        have h := (HON.out.block g2 (Ne.symm HAP.out.a12)).trans HAT.out.row
                        rw [blk_cell h, List.getElem?_toArray, ints_at _ _ hjd, ep]
                      have co := blk_int (n := k) HOB.out (k := p) (by rw [topS_len]; exact hpq)
                      have fo := blk_free HOB.out p
                      have hbd := topS_bd (a := a) p7 HLE.out hA d j p hpq
                      have HST := Lib.hid (topS_step (q := quoS a T ws) HPLD.out.nodup hjd ep hpq)
                      generalize (topS (quoS a T ws) d j)[p]'(by rw [topS_len]; exact hpq) = v at *
                      clear ep
                      have j1 : (0 : Int) ≤ (j : Int) := by omega
                      have j2 : (j : Int) < (kk : Int) := by omega
                      have j3 : (0 : Int) ≤ (p : Int) := by omega
                      have j4 : (p : Int) < (k : Int) := by omega
                      obtain ⟨v1, v2⟩ := hbd
                      go_wp2_with fail
                      go_roundg (kk - (j + 1))
                      case measure => have := HGJ.out; omega
                      case rel => exact ⟨j + 1, rfl, by omega, by go_num, by rw [HST.out, ← ints_set]; exact blk_set HOB.out p _, HON.out.setCell p _⟩
                    · have hjk : j = kk := by omega
                      subst hjk
                      go_wp2_with fail
                      go_ret2
                      have hsum := HTD.out
                      refine ⟨HB2.out.trans ((OnlyB.to_below HB4.out HON.out HAP.out.b1).mono HB2.out.size), .inr ⟨HOK.out, g1, k, topS (quoS a T ws) d j, by rw [HN.out]; rfl, ⟨d, j, by rw [HN.out]; exact HPLD.out, by rw [HTD.out, HN.out]; exact HSRT.out, by rw [HTD.out]; exact E1.out, by rw [HN.out]; exact hkk, by rw [HTD.out]⟩, ?_⟩⟩
                      rw [HN.out]
                      exact ⟨by rw [ints_len, topS_len, quoS_len, HN.out]; omega, fun _ => ⟨g1, 0, rfl, blk_lt HOB.out, fun i hi => by rw [Nat.zero_add]; exact (blk_cell HOB.out i).trans (by simp)⟩⟩
          · have HE := Lib.hid (okSp_sum (a := a) hs)
            rcases sumS_e ws with e | e | e
            · have e1 : (sumS ws).1 = 0 := by
                by_cases e1 : (sumS ws).1 = 0
                · exact e1
                · exact absurd ⟨e, e1⟩ hs
              have e2 : sumS ws = (0, 0) := Prod.ext e1 e
              rw [e2]
              clear e e1 e2 hs
              go_wp2_with fail
              go_ret2
              exact SplitOf.no HE.out HB2.out
            · have e2 : pr (sumS ws) = .tuple #[.int .i64 (sumS ws).1, .int .i64 1] := by rw [pr, e]
              rw [e2]
              clear e e2 hs
              go_wp2_with fail
              go_ret2
              exact SplitOf.no HE.out HB2.out
            · have e2 : pr (sumS ws) = .tuple #[.int .i64 (sumS ws).1, .int .i64 2] := by rw [pr, e]
              rw [e2]
              clear e e2 hs
              go_wp2_with fail
              go_ret2
              exact SplitOf.no HE.out HB2.out
      · have HE := Lib.hid (okSp_len (a := a) (ws := ws) (by rw [HN.out]; omega))
        have i2 : 64 < (n : Int) := by omega
        clear ha
        go_enter Try.func18, Try.ntmps18
        go_wp2_with fail
        refine (is1 a w).mono ?_; rintro e w' ⟨rfl, rfl⟩
        rw [HA.out]
        go_wp2_with fail
        go_ret2
        exact SplitOf.no HE.out (below_new _ _)
    · have HE := Lib.hid (okSp_len (a := a) (ws := ws) (by rw [HN.out]; omega))
      have i2 : (n : Int) < 1 := by omega
      clear ha
      go_enter Try.func18, Try.ntmps18
      go_wp2_with fail
      refine (is1 a w).mono ?_; rintro e w' ⟨rfl, rfl⟩
      rw [HA.out]
      go_wp2_with fail
      go_ret2
      exact SplitOf.no HE.out (below_new _ _)
  · have HE := Lib.hid (okSp_amt (ws := ws) ha)
    have HA := Lib.hid (Bool.eq_false_iff.2 ha); clear ha
    go_enter Try.func18, Try.ntmps18
    go_wp2_with fail
    refine (is1 a w).mono ?_; rintro e w' ⟨rfl, rfl⟩
    rw [HA.out]
    go_wp2_with fail
    go_ret2
    exact SplitOf.no HE.out (below_new _ _)
end Go.Proofs.Ytjimahagfkpacaa
