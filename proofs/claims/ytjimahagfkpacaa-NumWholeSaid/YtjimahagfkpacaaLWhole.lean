/- The walk of NumWhole. -/
import Derived.Test.YtjimahagfkpacaaW3
import Derived.Test.YtjimahagfkpacaaW5
import Derived.Test.YtjimahagfkpacaaW6
import Derived.Test.YtjimahagfkpacaaSM
namespace Go.Proofs.Ytjimahagfkpacaa
open Go.RowKit Go
set_option linter.unusedVariables false
set_option linter.unusedSimpArgs false

set_option maxRecDepth 100000 in
set_option maxHeartbeats 6400000 in
theorem numWhole_walk (a : Int) (A : Option Addr) (ws : List Int) (n c : Nat) (w : World) (hn : ws.length = n) (hr : Rd w w.heap.size 1 A n (ints ws)) (hm : n ≤ maxLen) :
    Calls Try.prog 6 #[.int .i64 a, .slice A n c] w fun e w' => e = .returned (.bool true) ∧ Below w.heap.size w w' := by
  unfold maxLen at hm
  have HN := Lib.hid hn; have HR := Lib.hid hr
  clear hn hr
  go_enter Try.func6, Try.ntmps6
  go_wp2_with fail
  refine (awake_anyW w).mono ?_; rintro e w1 ⟨rfl, hw1⟩
  have HW1 := Lib.hid hw1; have HR1 := Lib.hid ((HR.out.below hw1).wider hw1.size); have hz1 := hw1.size
  clear hw1
  by_cases h : n ≤ 1000
  · have HSP := Lib.hid (split_any a A ws n c w1 HN.out HR1.out (by unfold maxLen; omega))
    go_wp2_with fail
    refine HSP.out.mono ?_; intro e w2 h
    obtain ⟨hb2, ⟨hno, rfl⟩ | ⟨hyes, g, cg, l, rfl, hsp, hrd⟩⟩ := h
    · have HB2 := Lib.hid (HW1.out.trans (hb2.mono hz1))
      clear hb2 hno HSP
      go_wp2_with fail
      go_ret
      exact ⟨ret_bool (by simp), HB2.out⟩
    · have HB2 := Lib.hid (HW1.out.trans (hb2.mono hz1))
      obtain ⟨q1, q2, q3, q4, q5, q6, p7⟩ := okSp_parts hyes
      obtain ⟨hll, hsl⟩ := hsp.sumW q1 q3 p7
      rw [HN.out] at hll
      rw [HN.out] at hrd
      rw [HN.out]
      have HLL := Lib.hid hll
      have hs1 := sum_n (some ⟨g, 0, none⟩) n cg l w2 hrd (by omega)
      rw [hsl] at hs1
      have HS1 := Lib.hid hs1
      have HRD := Lib.hid hrd
      have HR2 := Lib.hid ((HR1.out.below hb2).wider hb2.size)
      have HPT := Lib.hid (fun i hi => hsp.partsW q1 q3 p7 i hi)
      have hTa := amt_yes q5
      have HA := Lib.hid q1
      have hA := amt_yes q1
      have HLE : Hid (∀ x ∈ ws, (0 ≤ x ∧ x ≤ ws.sum) ∧ amt x = true) := Lib.hid (fun x hx => ⟨⟨q3 x hx, le_sum q3 hx⟩, List.all_eq_true.1 q4 x hx⟩)
      have HQ6 := Lib.hid q6
      clear hb2 hyes hsp hrd hll hsl hs1 q1 q2 q3 q4 q5 q6 HSP
      generalize hTd : ws.sum = T at *
      clear hTd
      go_wp2_with fail
      refine HS1.out.mono ?_; rintro e w3 ⟨rfl, hb3⟩
      have HB3 := Lib.hid (HB2.out.trans (hb3.mono HB2.out.size))
      have hs2 := sum_n A n c ws w3 ((HR2.out.below hb3).wider hb3.size) (by omega)
      rw [HQ6.out] at hs2
      have HS2 := Lib.hid hs2
      have HR3 := Lib.hid ((HR2.out.below hb3).wider hb3.size)
      have HRD3 := Lib.hid ((HRD.out.below hb3).wider hb3.size)
      clear hb3 hs2 HS1 HR2 HRD
      go_wp2_with fail
      refine HS2.out.mono ?_; rintro e w4 ⟨rfl, hb4⟩
      have HB4 := Lib.hid (HB3.out.trans (hb4.mono HB3.out.size))
      have HR4 := Lib.hid ((HR3.out.below hb4).wider hb4.size)
      have HRD4 := Lib.hid ((HRD3.out.below hb4).wider hb4.size)
      have hqa : (a != a) = false := by simp
      have hqn : ((n : Int) != (n : Int)) = false := by simp
      clear hb4 HS2 HR3 HRD3
      go_wp2_with fail
      clear hqa hqn
      go_loopg [12] n (fun gh vi wr => ∃ i : Nat, gh = n - i ∧ i ≤ n ∧ vi = .int .i64 i ∧ Below w4.heap.size w4 wr)
      case atStart => exact ⟨0, rfl, by omega, rfl, Below.refl _ _⟩
      case round =>
        obtain ⟨i, hgk, hk, rfl, hbr⟩ := hrel
        have HG := Lib.hid hgk; have HB := Lib.hid hbr
        clear hgk hbr
        by_cases hlt : i < n
        · have hk' : i < ws.length := by have := HN.out; omega
          obtain ⟨hil, hpt, hpl, hpu⟩ := HPT.out i hk'
          obtain ⟨bw, ow, rfl, hbw, xw⟩ := (HR4.out.below HB.out).numW hk'
          have hx01 := (HLE.out ws[i] (List.getElem_mem hk')).1
          have hxa := (HLE.out ws[i] (List.getElem_mem hk')).2
          have hqb := quo_bound p7 hx01.1 hx01.2 hA
          generalize hxd : ws[i] = x at *
          clear hxd
          have HMB := Lib.hid (mul_big HA.out hxa)
          have HOA := Lib.hid (fun wx => of_any a wx (by omega))
          have HOX := Lib.hid (fun wx => of_any x wx (by omega))
          have HMU := Lib.hid (fun wx => mul_wide HA.out hxa wx)
          have HWM := Lib.hid (wz_mul a x)
          have HDV := Lib.hid (fun wx => wdiv_any (decide (a < 0) != decide (x < 0)) (a.natAbs * x.natAbs) T wx HMB.out.1 HMB.out.2 (by omega) (by omega))
          generalize hqd : a * x / T = q at *
          generalize hrd : a * x % T = r at *
          have HQD := Lib.hid hqd; have HRD := Lib.hid hrd
          have HPP := Lib.hid hpt
          have HIL := Lib.hid hil
          clear hqd hrd hxa hx01 hpt
          have z3 : bw < wr.heap.size := World.block_lt_of_cell? _ _ xw
          have j1 : (0 : Int) ≤ (i : Int) := by omega
          have j2 : (i : Int) < (n : Int) := by omega
          go_upto_region 14 with fail
          go_cut [13, 14] from 74 to 86 (fun v14 v15 wx => WideAt q r wr v14 v15 wx)
          case first =>
            obtain ⟨VA, hVA⟩ : ∃ V, wd (decide (a < 0)) a.natAbs = V := ⟨_, rfl⟩
            obtain ⟨VX, hVX⟩ : ∃ V, wd (decide (x < 0)) x.natAbs = V := ⟨_, rfl⟩
            obtain ⟨VM, hVM⟩ : ∃ V, wd (decide (a < 0) != decide (x < 0)) (a.natAbs * x.natAbs) = V := ⟨_, rfl⟩
            rw [hVA] at HOA; rw [hVX] at HOX; rw [hVA, hVX, hVM] at HMU; rw [hVM] at HDV
            clear hVA hVX hVM hqb hTa hA hm hbw hpl hpu hz1
            go_region_held3 (fun w' => w'.cell? ⟨bw, ow + i, none⟩ = some (.int .i64 x))
              ((first | (with_reducible exact set5_cell xw5 (by omega) _ _ _ _ _) | (with_reducible exact drew_cell (set5_cell xw5 (by omega) _ _ _ _ _)) | (with_reducible exact set5_cell (alloc_cell xw5 _) (by omega) _ _ _ _ _) | (with_reducible exact drew_cell (set5_cell (alloc_cell xw5 _) (by omega) _ _ _ _ _)) | (with_reducible exact xw5) | (with_reducible exact drew_cell xw5) | (with_reducible exact alloc_cell xw5 _) | (with_reducible exact drew_cell (alloc_cell xw5 _)) | (with_reducible exact alloc_cell (drew_cell xw5) _) | (with_reducible exact xw4) | (with_reducible exact drew_cell xw4) | (with_reducible exact alloc_cell xw4 _) | (with_reducible exact drew_cell (alloc_cell xw4 _)) | (with_reducible exact alloc_cell (drew_cell xw4) _) | (with_reducible exact xw3) | (with_reducible exact drew_cell xw3) | (with_reducible exact alloc_cell xw3 _) | (with_reducible exact drew_cell (alloc_cell xw3 _)) | (with_reducible exact alloc_cell (drew_cell xw3) _) | (with_reducible exact xw1) | (with_reducible exact drew_cell xw1) | (with_reducible exact alloc_cell xw1 _) | (with_reducible exact drew_cell (alloc_cell xw1 _)) | (with_reducible exact alloc_cell (drew_cell xw1) _) | (with_reducible exact xw) | (with_reducible exact drew_cell xw) | (with_reducible exact alloc_cell xw _) | (with_reducible exact drew_cell (alloc_cell xw _)) | (with_reducible exact alloc_cell (drew_cell xw) _) | exact xw5 | exact alloc_cell xw5 _ | exact set5_cell xw5 (by omega) _ _ _ _ _ | exact xw4 | exact alloc_cell xw4 _ | exact xw3 | exact alloc_cell xw3 _ | exact xw1 | exact alloc_cell xw1 _ | exact xw | exact alloc_cell xw _))
              ((first
              | (go_at_call 21; first
                  | ((with_reducible refine (HOA.out _).mono ?_); rintro e w1 ⟨rfl, hw1⟩; have xw1 : w1.cell? ⟨bw, ow + i, none⟩ = some (.int .i64 x) := (by first | (with_reducible exact keep_cell xw hw1) | (with_reducible exact keep_cell (drew_cell xw) hw1) | (with_reducible exact keep_cell (alloc_cell xw _) hw1) | (with_reducible exact keep_cell (drew_cell (alloc_cell xw _)) hw1) | (with_reducible exact keep_cell (alloc_cell (drew_cell xw) _) hw1) | exact keep_cell xw hw1 | exact keep_cell (alloc_cell xw _) hw1); have hz1 := hw1.size; (try simp only [World.size_alloc, World.size_drew, size_drewN, World.size_setCell, Nat.add_one_le_iff] at hz1); (try have hy10 : wr.heap.size < w1.heap.size := by omega); (try have hy13 : w3.heap.size < w1.heap.size := by omega); (try have hy14 : w4.heap.size < w1.heap.size := by omega); (first | (have HK1 := Lib.hid (new_below (P := wr) hw1)) | (have HK1 := Lib.hid (new_belowd (P := wr) hw1)) | skip); have HB1 : Hid (Below wr.heap.size wr w1) := Lib.hid (by first | (with_reducible exact hw1) | (with_reducible exact bel_d hw1) | (with_reducible exact bel_a hw1) | (with_reducible exact bel_a (bel_d hw1)) | (with_reducible exact bel_d (bel_a hw1)) | exact hw1 | exact bel_d hw1 | exact bel_a hw1); clear hw1)
                  | ((with_reducible refine (HOX.out _).mono ?_); rintro e w3 ⟨rfl, hw3⟩; have xw3 : w3.cell? ⟨bw, ow + i, none⟩ = some (.int .i64 x) := (by first | (with_reducible exact keep_cell xw1 hw3) | (with_reducible exact keep_cell (drew_cell xw1) hw3) | (with_reducible exact keep_cell (alloc_cell xw1 _) hw3) | (with_reducible exact keep_cell (drew_cell (alloc_cell xw1 _)) hw3) | (with_reducible exact keep_cell (alloc_cell (drew_cell xw1) _) hw3) | exact keep_cell xw1 hw3 | exact keep_cell (alloc_cell xw1 _) hw3); have hz3 := hw3.size; (try simp only [World.size_alloc, World.size_drew, size_drewN, World.size_setCell, Nat.add_one_le_iff] at hz3); (try have hy30 : wr.heap.size < w3.heap.size := by omega); (try have hy31 : w1.heap.size < w3.heap.size := by omega); (try have hy34 : w4.heap.size < w3.heap.size := by omega); (first | (have HK3 := Lib.hid (blk_below HK1.out hw3 (blk_lt HK1.out))) | (have HK3 := Lib.hid (new_below (P := w1) hw3)) | (have HK3 := Lib.hid (new_belowd (P := w1) hw3)) | skip); have HB3 : Hid (Below w1.heap.size w1 w3) := Lib.hid (by first | (with_reducible exact hw3) | (with_reducible exact bel_d hw3) | (with_reducible exact bel_a hw3) | (with_reducible exact bel_a (bel_d hw3)) | (with_reducible exact bel_d (bel_a hw3)) | exact hw3 | exact bel_d hw3 | exact bel_a hw3); clear hw3))
              | (go_at_call 22; refine (HMU.out _).mono ?_; rintro e w4 ⟨rfl, hw4⟩; have xw4 : w4.cell? ⟨bw, ow + i, none⟩ = some (.int .i64 x) := (by first | (with_reducible exact keep_cell xw3 hw4) | (with_reducible exact keep_cell (drew_cell xw3) hw4) | (with_reducible exact keep_cell (alloc_cell xw3 _) hw4) | (with_reducible exact keep_cell (drew_cell (alloc_cell xw3 _)) hw4) | (with_reducible exact keep_cell (alloc_cell (drew_cell xw3) _) hw4) | exact keep_cell xw3 hw4 | exact keep_cell (alloc_cell xw3 _) hw4); have hz4 := hw4.size; (try simp only [World.size_alloc, World.size_drew, size_drewN, World.size_setCell, Nat.add_one_le_iff] at hz4); (try have hy40 : wr.heap.size < w4.heap.size := by omega); (try have hy41 : w1.heap.size < w4.heap.size := by omega); (try have hy43 : w3.heap.size < w4.heap.size := by omega); (first | (have HK4 := Lib.hid (blk_below HK3.out hw4 (blk_lt HK3.out))) | (have HK4 := Lib.hid (new_below (P := w3) hw4)) | (have HK4 := Lib.hid (new_belowd (P := w3) hw4)) | skip); have HB4 : Hid (Below w3.heap.size w3 w4) := Lib.hid (by first | (with_reducible exact hw4) | (with_reducible exact bel_d hw4) | (with_reducible exact bel_a hw4) | (with_reducible exact bel_a (bel_d hw4)) | (with_reducible exact bel_d (bel_a hw4)) | exact hw4 | exact bel_d hw4 | exact bel_a hw4); clear hw4)
              | (go_at_call 23; refine (HDV.out _).mono ?_; intro e w5 h6; obtain ⟨n', m, rfl, hq0, hq1, hq2, hw5⟩ := DivRes.pre h6; clear h6; have xw5 : w5.cell? ⟨bw, ow + i, none⟩ = some (.int .i64 x) := (by first | (with_reducible exact keep_cell xw4 hw5) | (with_reducible exact keep_cell (drew_cell xw4) hw5) | (with_reducible exact keep_cell (alloc_cell xw4 _) hw5) | (with_reducible exact keep_cell (drew_cell (alloc_cell xw4 _)) hw5) | (with_reducible exact keep_cell (alloc_cell (drew_cell xw4) _) hw5) | exact keep_cell xw4 hw5 | exact keep_cell (alloc_cell xw4 _) hw5); have hz5 := hw5.size; (try simp only [World.size_alloc, World.size_drew, size_drewN, World.size_setCell, Nat.add_one_le_iff] at hz5); (try have hy50 : wr.heap.size < w5.heap.size := by omega); (try have hy51 : w1.heap.size < w5.heap.size := by omega); (try have hy53 : w3.heap.size < w5.heap.size := by omega); (try have hy54 : w4.heap.size < w5.heap.size := by omega); (first | (have HK5 := Lib.hid (blk_below HK4.out hw5 (blk_lt HK4.out))) | (have HK5 := Lib.hid (new_below (P := w4) hw5)) | (have HK5 := Lib.hid (new_belowd (P := w4) hw5)) | skip); (first | (have HE5 := Lib.hid (blk5 HK5.out); obtain ⟨e0, e1, e2, e3, e4, e5⟩ := HE5.out) | skip); have HB5 : Hid (Below w4.heap.size w4 w5) := Lib.hid (by first | (with_reducible exact hw5) | (with_reducible exact bel_d hw5) | (with_reducible exact bel_a hw5) | (with_reducible exact bel_a (bel_d hw5)) | (with_reducible exact bel_d (bel_a hw5)) | exact hw5 | exact bel_d hw5 | exact bel_a hw5); have HBA := Lib.hid (bel4 HB1.out HB3.out HB4.out HB5.out); (try clear hw5))))
            all_goals go_wp2_with fail
            all_goals go_meet
            all_goals first
              | with_reducible refine wide_end0 HBA.out hq0 ?_ ?_ ?_
              | with_reducible refine wide_end HBA.out HK5.out ?_ hq0 ?_ ?_ ?_
            all_goals first
              | (rw [hq2.out, HWM.out, HQD.out]; done)
              | (rw [HWM.out, HRD.out]; done)
              | (have := HMB.out.2; omega)
              | (have := HB1.out.size; have := HB3.out.size; have := HB4.out.size; have := HB5.out.size; omega)
          case rest =>
            obtain ⟨gq, n', m, rfl, rfl, hbq, u0, u1, hwz, hgl, hbx⟩ := hcut
            obtain ⟨e0, e1, e2, e3, e4, e5⟩ := blk5 hbq
            have HX := Lib.hid hbx
            have HT6 := Lib.hid (fun wx => wtold_any n' m wx u0 u1)
            have HTQ := Lib.hid (wz_amt hwz hqb)
            clear hbq hwz hbx e5
            go_wp2_with fail
            refine (HT6.out _).mono ?_
            rintro e w6 ⟨rfl, hw6⟩
            rw [HTQ.out]
            have HB5 := Lib.hid (HB.out.trans (HX.out.mono HB.out.size))
            have HB6 := Lib.hid (HB5.out.trans (hw6.mono HB5.out.size))
            clear hw6 e0 e1 e2 e3 e4 HT6
            obtain ⟨bl, ol, hAA, hbl, xl⟩ := (HRD4.out.below HB6.out).numW hil
            simp only [Option.some.injEq, Addr.mk.injEq] at hAA
            obtain ⟨rfl, rfl, -⟩ := hAA
            rw [Nat.zero_add] at xl
            have e0 : (q != q) = false := by simp
            rcases HPP.out with e | e
            · rw [e] at xl
              clear e hpl hpu
              go_wp2_with fail
              go_roundg (n - (i + 1))
              case measure => have := HG.out; omega
              case rel => exact ⟨i + 1, rfl, by omega, by go_num, HB6.out⟩
            · rw [e] at xl hpl hpu
              clear e
              have e1 : (q + 1 != q) = true := bne_iff_ne.2 (by omega)
              have s1 : IntKind.i64.wrap (q + 1 - 1) = q := by rw [IntWalk.i64_in _ (by omega)]; omega
              have s2 : IntKind.i64.wrap q = q := IntWalk.i64_in _ (by omega)
              go_wp2_with fail
              go_roundg (n - (i + 1))
              case measure => have := HG.out; omega
              case rel => exact ⟨i + 1, rfl, by omega, by go_num, HB6.out⟩
        · go_wp2_with fail
          go_ret
          exact ⟨rfl, HB4.out.trans (HB.out.mono HB4.out.size)⟩
  · go_wp2_with fail
    go_ret
    exact ⟨rfl, HW1.out⟩
end Go.Proofs.Ytjimahagfkpacaa
