/- The reference's Split: the walk. -/
import Derived.Test.YtjimahagfkpacaaW4
namespace Go.Proofs.Ytjimahagfkpacaa
open Go.RowKit Go
set_option linter.unusedVariables false
set_option linter.unusedSimpArgs false

def SplitAs (a : Int) (ws l : List Int) (w : World) (e : Ending) (w' : World) : Prop := Below w.heap.size w w' ∧
  ((okSp a ws = false ∧ e = .returned (.tuple #[.slice none 0 0, .int .i64 1])) ∨
   (okSp a ws = true ∧ ∃ (g c : Nat), e = .returned (.tuple #[.slice (some ⟨g, 0, none⟩) ws.length c, .int .i64 0]) ∧ Rd w' w'.heap.size 1 (some ⟨g, 0, none⟩) ws.length (ints l)))
theorem SplitAs.no {a : Int} {ws l : List Int} {w w' : World} (h : okSp a ws = false) (hb : Below w.heap.size w w') : SplitAs a ws l w (.returned (.tuple #[.slice none 0 0, .int .i64 1])) w' := ⟨hb, .inl ⟨h, rfl⟩⟩
theorem okSp_neg2 {a : Int} {ws : List Int} {k : Nat} (hk : k < ws.length) (h : ws[k] < 0) : okSp a ws = false := by
  have : ws.all (fun x => decide (0 ≤ x)) = false := by
    rw [Bool.eq_false_iff]; intro h2
    have := List.all_eq_true.1 h2 _ (List.getElem_mem hk)
    simp at this; omega
  simp only [okSp, this]; simp
theorem okSp_yes2 {a : Int} {ws : List Int} (h1 : amt a = true) (h2 : 1 ≤ ws.length ∧ ws.length ≤ 64) (h3 : ∀ x ∈ ws, 0 ≤ x) (h4 : (sumS ws).2 = 0 ∧ (sumS ws).1 ≠ 0) : okSp a ws = true := by
  have : ws.all (fun x => decide (0 ≤ x)) = true := List.all_eq_true.2 fun x hx => by have := h3 x hx; simp; omega
  simp only [okSp, h1, this]; rw [decide_eq_true h2, decide_eq_true h4]; rfl
theorem wz_amt {n : Bool} {m q : Int} (h : wz n m = q) (hq : -4611686018427387904 ≤ q ∧ q ≤ 4611686018427387904) : told (wz n m) = (q, 0) := by
  rw [h]; exact told_yes (by simp [amt]; omega)

set_option maxHeartbeats 6400000 in
set_option maxRecDepth 100000 in
theorem splitRef_any (a : Int) (A : Option Addr) (ws l : List Int) (n c : Nat) (w : World) (hn : ws.length = n) (hr : Rd w w.heap.size 1 A n (ints ws)) (hm : n ≤ 1000) (hl : okSp a ws = true → IsSplit a ws l) :
    Calls Try.prog 19 #[.int .i64 a, .slice A n c] w (SplitAs a ws l w) := by
  have HN := Lib.hid hn; have HR := Lib.hid hr; have HL := Lib.hid hl; clear hn hr hl
  by_cases ha : amt a = true
  · have HA := Lib.hid ha
    by_cases h1 : 1 ≤ n
    · by_cases h2 : n ≤ 64
      · clear ha
        have i1 : ¬ (n : Int) < 1 := by omega
        have i2 : ¬ 64 < (n : Int) := by omega
        go_enter Try.func19, Try.ntmps19
        go_wp2_with fail
        refine (is_ref a w).mono ?_; rintro e w' ⟨rfl, rfl⟩
        rw [HA.out]
        go_wp2_with fail
        go_loopg [7] n (fun gh vi wr => ∃ k : Nat, gh = n - k ∧ k ≤ n ∧ vi = .int .i64 k ∧ (∀ x ∈ ws.take k, 0 ≤ x) ∧ w = wr)
        case atStart => exact ⟨0, rfl, by omega, rfl, by simp, rfl⟩
        case round =>
          obtain ⟨k, hgk, hk, rfl, hall, rfl⟩ := hrel
          have HG := Lib.hid hgk; have HALL := Lib.hid hall
          clear hgk hall
          by_cases hlt : k < n
          · have hk' : k < ws.length := by have := HN.out; omega
            obtain ⟨bw, ow, rfl, hbw, xw⟩ := HR.out.numW hk'
            have HT := Lib.hid (List.take_succ_eq_append_getElem hk')
            have HNG : Hid (ws[k] < 0 → okSp a ws = false) := Lib.hid (okSp_neg2 hk')
            generalize ws[k] = x at *
            have j1 : (0 : Int) ≤ (k : Int) := by omega
            have j2 : (k : Int) < (n : Int) := by omega
            by_cases hx : x < 0
            · have HE := Lib.hid (HNG.out hx)
              go_wp2_with fail
              go_ret2
              exact SplitAs.no HE.out (Below.refl _ _)
            · have HALL2 : Hid (∀ y ∈ ws.take (k + 1), 0 ≤ y) := Lib.hid (by
                rw [HT.out]; intro y hy
                rcases List.mem_append.1 hy with h | h
                · exact HALL.out y h
                · rw [List.mem_singleton] at h; omega)
              go_wp2_with fail
              go_roundg (n - (k + 1))
              case measure => have := HG.out; omega
              case rel => exact ⟨k + 1, rfl, by omega, by go_num, HALL2.out, rfl⟩
          · have hkn : k = n := by omega
            subst hkn
            have HNN : Hid (∀ x ∈ ws, 0 ≤ x) := Lib.hid (by have := HALL.out; rwa [List.take_of_length_le (by rw [HN.out]; exact Nat.le_refl _)] at this)
            clear hlt HG HALL
            have hsum := rsum_any A ws c w (by rw [HN.out]; exact HR.out) (by rw [HN.out]; omega)
            rw [HN.out] at hsum
            have HSM := Lib.hid hsum; clear hsum
            go_wp2_with fail
            refine HSM.out.mono ?_; rintro e w2 ⟨rfl, hw2⟩
            have HB2 := Lib.hid hw2; have HR2 := Lib.hid ((HR.out.below hw2).wider hw2.size)
            have hz2 := hw2.size
            clear hw2
            by_cases hs : (sumS ws).2 = 0 ∧ (sumS ws).1 ≠ 0
            · have HOK := Lib.hid (okSp_yes2 HA.out (by rw [HN.out]; exact ⟨h1, h2⟩) HNN.out hs)
              obtain ⟨p1, p2, p3, p4, p5, p6, p7⟩ := okSp_parts HOK.out
              rw [p6]
              have hTa := amt_yes p5
              have hA := amt_yes HA.out
              have HLE : Hid (∀ x ∈ ws, (0 ≤ x ∧ x ≤ ws.sum) ∧ amt x = true) := Lib.hid (fun x hx => ⟨⟨p3 x hx, le_sum p3 hx⟩, List.all_eq_true.1 p4 x hx⟩)
              have HPS : Hid (∀ k, -4611686018427389000 ≤ (quoS a ws.sum (ws.take k)).sum ∧ (quoS a ws.sum (ws.take k)).sum ≤ 4611686018427387904) := Lib.hid (fun k => prefix_sum p7 p3 rfl hA (by rw [HN.out]; omega) k)
              have HPL : Hid (∀ k, a - (quoS a ws.sum (ws.take k)).sum ≤ 4611686018427388904) := Lib.hid (fun k => prefix_left p7 p3 rfl hA (by rw [HN.out]; omega) k)
              have HSP := Lib.hid (HL.out HOK.out)
              have htne : (ws.sum == 0) = false := by simp; omega
              clear p1 p2 p3 p4 p5 p6 hs i1 i2
              unfold IsSplit at HSP
              generalize hTd : ws.sum = T at *
              have HTD := Lib.hid hTd; clear hTd
              have hmk1 := run_make_row' (P := Try.prog) 27 2 (.int .i64 0) 8 Try.underlying27 info_n64 rfl .i64 .i64 k (by omega) (by omega)
              rw [made_intsW] at hmk1
              have HMK := hmk1 w2
              have HMK2 := hmk1 (w2.alloc (.cells (ints (List.replicate k 0)).toArray 2))
              simp only [World.size_alloc] at HMK2
              clear hmk1
              go_wp2_with fail
              clear HMK HMK2
              have hdiv0 : DivR a T ws k w2.heap.size (w2.heap.size + 1) 0 w2 ((w2.alloc (.cells (ints (List.replicate k 0)).toArray 2)).alloc (.cells (ints (List.replicate k 0)).toArray 2)) := by
                refine ⟨?_, ?_, ?_⟩
                · have e : half (quoS a T (ws.take 0)) k = List.replicate k 0 := half_nil k
                  rw [e]; exact blk_alloc (blk_new _ _ rfl) _
                · have e : half (rstS a T (ws.take 0)) k = List.replicate k 0 := half_nil k
                  rw [e]; exact blk_new _ _ (by simp)
                · exact ((Below.refl _ _).alloc (Nat.le_refl _) _).alloc (by simp) _
              have HDIV := Lib.hid hdiv0
              clear hdiv0
              obtain ⟨g1, hg1⟩ : ∃ g1, g1 = w2.heap.size := ⟨_, rfl⟩
              obtain ⟨gr, hgr⟩ : ∃ gr, gr = w2.heap.size + 1 := ⟨_, rfl⟩
              generalize (w2.alloc (.cells (ints (List.replicate k 0)).toArray 2)).alloc (.cells (ints (List.replicate k 0)).toArray 2) = W3 at *
              rw [← hgr] at HDIV ⊢
              rw [← hg1] at HDIV ⊢
              have a1 : g1 ≠ gr := by omega
              have a1' : gr ≠ g1 := by omega
              have b1 : w2.heap.size ≤ g1 := by omega
              have b2 : w2.heap.size ≤ gr := by omega
              clear hg1 hgr
              go_loopg [12, 13] k (fun gh vl vi wr => ∃ i : Nat, gh = k - i ∧ i ≤ k ∧ vi = .int .i64 i ∧ vl = .int .i64 (a - (quoS a T (ws.take i)).sum) ∧ DivR a T ws k g1 gr i w2 wr)
              case atStart => exact ⟨0, rfl, by omega, rfl, by simp [quoS], HDIV.out⟩
              case round =>
                obtain ⟨i, hgk, hk, rfl, rfl, hdv⟩ := hrel
                have HG := Lib.hid hgk; have HD := Lib.hid hdv
                clear hgk hdv
                by_cases hlt : i < k
                · have hk' : i < ws.length := by have := HN.out; omega
                  obtain ⟨bw, ow, rfl, hbw, xw⟩ := (HR2.out.below HD.out.bel).numW hk'
                  have hx01 := (HLE.out ws[i] (List.getElem_mem hk')).1
                  have hxa := (HLE.out ws[i] (List.getElem_mem hk')).2
                  have HSU : Hid ((quoS a T (ws.take (i + 1))).sum = (quoS a T (ws.take i)).sum + a * ws[i] / T) := Lib.hid (by rw [quoS_take _ _ _ _ hk', List.sum_append]; simp)
                  have hqb := quo_bound p7 hx01.1 hx01.2 hA
                  have hrb1 := Int.emod_nonneg (a * ws[i]) (show T ≠ 0 by omega)
                  have hrb2 := Int.emod_lt_of_pos (a * ws[i]) p7
                  have hp1 := HPS.out i
                  have hp2 := HPS.out (i + 1)
                  have hp3 := HPL.out (i + 1)
                  rw [HSU.out] at hp2 hp3
                  generalize hxd : ws[i] = x at *
                  have HXD := Lib.hid hxd; clear hxd
                  have HMB := Lib.hid (mul_big HA.out hxa)
                  have HOA := Lib.hid (fun wx => of_any a wx (by omega))
                  have HOX := Lib.hid (fun wx => of_any x wx (by omega))
                  have HMU := Lib.hid (fun wx => mul_wide HA.out hxa wx)
                  have HWM := Lib.hid (wz_mul a x)
                  have HDV := Lib.hid (fun wx => wdiv_any (decide (a < 0) != decide (x < 0)) (a.natAbs * x.natAbs) T wx HMB.out.1 HMB.out.2 (by omega) (by omega))
                  generalize hqd : a * x / T = q at *
                  generalize hrd : a * x % T = r at *
                  generalize hsd : (quoS a T (ws.take i)).sum = S at *
                  have HQD := Lib.hid hqd; have HRD := Lib.hid hrd
                  clear hqd hrd hsd hxa
                  obtain ⟨hx0, hx1⟩ := hx01
                  have z1 := blk_lt HD.out.out
                  have z2 := blk_lt HD.out.rst
                  have z3 : bw < wr.heap.size := World.block_lt_of_cell? _ _ xw
                  have j1 : (0 : Int) ≤ (i : Int) := by omega
                  have j2 : (i : Int) < (k : Int) := by omega
                  have j3 : -9223372036854775808 ≤ a - S - q := by omega
                  have j4 : a - S - q ≤ 9223372036854775807 := by omega
                  clear hp1 hp2 hp3
                  go_upto_region 19 with fail
                  go_cut [14, 15] from 69 to 81 (fun v14 v15 wx => WideAt q r wr v14 v15 wx)
                  case first =>
                    obtain ⟨VA, hVA⟩ : ∃ V, wd (decide (a < 0)) a.natAbs = V := ⟨_, rfl⟩
                    obtain ⟨VX, hVX⟩ : ∃ V, wd (decide (x < 0)) x.natAbs = V := ⟨_, rfl⟩
                    obtain ⟨VM, hVM⟩ : ∃ V, wd (decide (a < 0) != decide (x < 0)) (a.natAbs * x.natAbs) = V := ⟨_, rfl⟩
                    rw [hVA] at HOA; rw [hVX] at HOX; rw [hVA, hVX, hVM] at HMU; rw [hVM] at HDV
                    clear hVA hVX hVM z1 z2 j3 j4 hx0 hx1 hqb hrb1 hrb2 a1 a1' b1 b2 hTa hA h1 h2 hm hz2 htne hbw
                    go_region_held3 (fun w' => w'.cell? ⟨bw, ow + i, none⟩ = some (.int .i64 x))
                      ((first | (with_reducible exact set5_cell xw5 (by omega) _ _ _ _ _) | (with_reducible exact drew_cell (set5_cell xw5 (by omega) _ _ _ _ _)) | (with_reducible exact set5_cell (alloc_cell xw5 _) (by omega) _ _ _ _ _) | (with_reducible exact drew_cell (set5_cell (alloc_cell xw5 _) (by omega) _ _ _ _ _)) | (with_reducible exact xw5) | (with_reducible exact drew_cell xw5) | (with_reducible exact alloc_cell xw5 _) | (with_reducible exact drew_cell (alloc_cell xw5 _)) | (with_reducible exact alloc_cell (drew_cell xw5) _) | (with_reducible exact xw4) | (with_reducible exact drew_cell xw4) | (with_reducible exact alloc_cell xw4 _) | (with_reducible exact drew_cell (alloc_cell xw4 _)) | (with_reducible exact alloc_cell (drew_cell xw4) _) | (with_reducible exact xw3) | (with_reducible exact drew_cell xw3) | (with_reducible exact alloc_cell xw3 _) | (with_reducible exact drew_cell (alloc_cell xw3 _)) | (with_reducible exact alloc_cell (drew_cell xw3) _) | (with_reducible exact xw1) | (with_reducible exact drew_cell xw1) | (with_reducible exact alloc_cell xw1 _) | (with_reducible exact drew_cell (alloc_cell xw1 _)) | (with_reducible exact alloc_cell (drew_cell xw1) _) | (with_reducible exact xw) | (with_reducible exact drew_cell xw) | (with_reducible exact alloc_cell xw _) | (with_reducible exact drew_cell (alloc_cell xw _)) | (with_reducible exact alloc_cell (drew_cell xw) _) | exact xw5 | exact alloc_cell xw5 _ | exact set5_cell xw5 (by omega) _ _ _ _ _ | exact xw4 | exact alloc_cell xw4 _ | exact xw3 | exact alloc_cell xw3 _ | exact xw1 | exact alloc_cell xw1 _ | exact xw | exact alloc_cell xw _))
                      ((first
                      | (go_at_call 21; first
                          | ((with_reducible refine (HOA.out _).mono ?_); rintro e w1 ⟨rfl, hw1⟩; have xw1 : w1.cell? ⟨bw, ow + i, none⟩ = some (.int .i64 x) := (by first | (with_reducible exact keep_cell xw hw1) | (with_reducible exact keep_cell (drew_cell xw) hw1) | (with_reducible exact keep_cell (alloc_cell xw _) hw1) | (with_reducible exact keep_cell (drew_cell (alloc_cell xw _)) hw1) | (with_reducible exact keep_cell (alloc_cell (drew_cell xw) _) hw1) | exact keep_cell xw hw1 | exact keep_cell (alloc_cell xw _) hw1); have hz1 := hw1.size; (try simp only [World.size_alloc, World.size_drew, size_drewN, World.size_setCell, Nat.add_one_le_iff] at hz1); (try have hy10 : wr.heap.size < w1.heap.size := by omega); (try have hy13 : w3.heap.size < w1.heap.size := by omega); (try have hy14 : w4.heap.size < w1.heap.size := by omega); (first | (have HK1 := Lib.hid (new_below (P := wr) hw1)) | (have HK1 := Lib.hid (new_belowd (P := wr) hw1)) | skip); have HB1 : Hid (Below wr.heap.size wr w1) := Lib.hid (by first | (with_reducible exact hw1) | (with_reducible exact bel_d hw1) | (with_reducible exact bel_a hw1) | (with_reducible exact bel_a (bel_d hw1)) | (with_reducible exact bel_d (bel_a hw1)) | exact hw1 | exact bel_d hw1 | exact bel_a hw1); clear hw1)
                          | ((with_reducible refine (HOX.out _).mono ?_); rintro e w3 ⟨rfl, hw3⟩; have xw3 : w3.cell? ⟨bw, ow + i, none⟩ = some (.int .i64 x) := (by first | (with_reducible exact keep_cell xw1 hw3) | (with_reducible exact keep_cell (drew_cell xw1) hw3) | (with_reducible exact keep_cell (alloc_cell xw1 _) hw3) | (with_reducible exact keep_cell (drew_cell (alloc_cell xw1 _)) hw3) | (with_reducible exact keep_cell (alloc_cell (drew_cell xw1) _) hw3) | exact keep_cell xw1 hw3 | exact keep_cell (alloc_cell xw1 _) hw3); have hz3 := hw3.size; (try simp only [World.size_alloc, World.size_drew, size_drewN, World.size_setCell, Nat.add_one_le_iff] at hz3); (try have hy30 : wr.heap.size < w3.heap.size := by omega); (try have hy31 : w1.heap.size < w3.heap.size := by omega); (try have hy34 : w4.heap.size < w3.heap.size := by omega); (first | (have HK3 := Lib.hid (blk_below HK1.out hw3 (blk_lt HK1.out))) | (have HK3 := Lib.hid (new_below (P := w1) hw3)) | (have HK3 := Lib.hid (new_belowd (P := w1) hw3)) | skip); have HB3 : Hid (Below w1.heap.size w1 w3) := Lib.hid (by first | (with_reducible exact hw3) | (with_reducible exact bel_d hw3) | (with_reducible exact bel_a hw3) | (with_reducible exact bel_a (bel_d hw3)) | (with_reducible exact bel_d (bel_a hw3)) | exact hw3 | exact bel_d hw3 | exact bel_a hw3); clear hw3))
                      | (go_at_call 22; refine (HMU.out _).mono ?_; rintro e w4 ⟨rfl, hw4⟩; have xw4 : w4.cell? ⟨bw, ow + i, none⟩ = some (.int .i64 x) := (by first | (with_reducible exact keep_cell xw3 hw4) | (with_reducible exact keep_cell (drew_cell xw3) hw4) | (with_reducible exact keep_cell (alloc_cell xw3 _) hw4) | (with_reducible exact keep_cell (drew_cell (alloc_cell xw3 _)) hw4) | (with_reducible exact keep_cell (alloc_cell (drew_cell xw3) _) hw4) | exact keep_cell xw3 hw4 | exact keep_cell (alloc_cell xw3 _) hw4); have hz4 := hw4.size; (try simp only [World.size_alloc, World.size_drew, size_drewN, World.size_setCell, Nat.add_one_le_iff] at hz4); (try have hy40 : wr.heap.size < w4.heap.size := by omega); (try have hy41 : w1.heap.size < w4.heap.size := by omega); (try have hy43 : w3.heap.size < w4.heap.size := by omega); (first | (have HK4 := Lib.hid (blk_below HK3.out hw4 (blk_lt HK3.out))) | (have HK4 := Lib.hid (new_below (P := w3) hw4)) | (have HK4 := Lib.hid (new_belowd (P := w3) hw4)) | skip); have HB4 : Hid (Below w3.heap.size w3 w4) := Lib.hid (by first | (with_reducible exact hw4) | (with_reducible exact bel_d hw4) | (with_reducible exact bel_a hw4) | (with_reducible exact bel_a (bel_d hw4)) | (with_reducible exact bel_d (bel_a hw4)) | exact hw4 | exact bel_d hw4 | exact bel_a hw4); clear hw4)
                      | (go_at_call 23; refine (HDV.out _).mono ?_; intro e w5 h6; obtain ⟨n', m, rfl, hq0, hq1, hq2, hw5⟩ := DivRes.pre h6; clear h6; have xw5 : w5.cell? ⟨bw, ow + i, none⟩ = some (.int .i64 x) := (by first | (with_reducible exact keep_cell xw4 hw5) | (with_reducible exact keep_cell (drew_cell xw4) hw5) | (with_reducible exact keep_cell (alloc_cell xw4 _) hw5) | (with_reducible exact keep_cell (drew_cell (alloc_cell xw4 _)) hw5) | (with_reducible exact keep_cell (alloc_cell (drew_cell xw4) _) hw5) | exact keep_cell xw4 hw5 | exact keep_cell (alloc_cell xw4 _) hw5); have hz5 := hw5.size; (try simp only [World.size_alloc, World.size_drew, size_drewN, World.size_setCell, Nat.add_one_le_iff] at hz5); (try have hy50 : wr.heap.size < w5.heap.size := by omega); (try have hy51 : w1.heap.size < w5.heap.size := by omega); (try have hy53 : w3.heap.size < w5.heap.size := by omega); (try have hy54 : w4.heap.size < w5.heap.size := by omega); (first | (have HK5 := Lib.hid (blk_below HK4.out hw5 (blk_lt HK4.out))) | (have HK5 := Lib.hid (new_below (P := w4) hw5)) | (have HK5 := Lib.hid (new_belowd (P := w4) hw5)) | skip); (first | (have HE5 := Lib.hid (blk5 HK5.out); obtain ⟨e0, e1, e2, e3, e4, e5⟩ := HE5.out) | skip); have HB5 : Hid (Below w4.heap.size w4 w5) := Lib.hid (by first | (with_reducible exact hw5) | (with_reducible exact bel_d hw5) | (with_reducible exact bel_a hw5) | (with_reducible exact bel_a (bel_d hw5)) | (with_reducible exact bel_d (bel_a hw5)) | exact hw5 | exact bel_d hw5 | exact bel_a hw5); have HBA := Lib.hid (bel4 HB1.out HB3.out HB4.out HB5.out); (try clear hw5))))
                    all_goals go_wp2_with fail
                    all_goals go_meet
                    all_goals first
                      | with_reducible refine wide_end0 HBA.out hq0 ?_ ?_ ?_
                      | with_reducible refine wide_end HBA.out HK5.out ?_ hq0 ?_ ?_ ?_
                    all_goals first
                      | (rw [hq2.out, HWM.out, HQD.out]; done)
                      | (rw [HWM.out, HRD.out]; done)
                      | (have := HMB.out.2; omega)
                      | (have := HB1.out.size; have := HB3.out.size; have := HB4.out.size; have := HB5.out.size; omega)
                  case rest =>
                    obtain ⟨g, n', m, rfl, rfl, hbq, u0, u1, hwz, hgl, hbx⟩ := hcut
                    obtain ⟨e0, e1, e2, e3, e4, e5⟩ := blk5 hbq
                    have HX := Lib.hid hbx
                    have HT6 := Lib.hid (fun wx => wtold_any n' m wx u0 u1)
                    have HTQ := Lib.hid (wz_amt hwz hqb)
                    clear hbq hwz hbx e5
                    go_wp2_with fail
                    refine (HT6.out _).mono ?_
                    rintro e w6 ⟨rfl, hw6⟩
                    rw [HTQ.out]
                    have HD6 := Lib.hid ((HD.out.up HX.out).up hw6)
                    clear hw6 e0 e1 e2 e3 e4 HT6
                    obtain ⟨vo, co⟩ : ∃ v, w6.cell? ⟨g1, i, none⟩ = some v := ⟨_, blk_int (n := k) HD6.out.out (k := i) (by rw [half_len _ (by rw [quoS_len, List.length_take]; omega)]; exact hlt)⟩
                    have fo := blk_free HD6.out.out i
                    obtain ⟨vr, cr⟩ : ∃ v, w6.cell? ⟨gr, i, none⟩ = some v := ⟨_, blk_int (n := k) HD6.out.rst (k := i) (by rw [half_len _ (by rw [rstS_len, List.length_take]; omega)]; exact hlt)⟩
                    have cr2 := far_cell (j := i) cr (Ne.symm a1) (.int .i64 q)
                    have fr2 := blk_free (blk_far (p := ⟨g1, i, none⟩) HD6.out.rst (Ne.symm a1) (.int .i64 q)) i
                    go_wp2_with fail
                    go_roundg (k - (i + 1))
                    case measure => have := HG.out; omega
                    case rel => exact ⟨i + 1, rfl, by omega, by go_num, by rw [HSU.out, show a - (S + q) = a - S - q by omega], by have := HD6.out.step a1 b1 b2 hk' HN.out HXD.out; rwa [HQD.out, HRD.out] at this⟩
                · have hik : i = k := by omega
                  subst hik
                  unfold Hid at HSP
                  obtain ⟨d, kk, hpl, hsrt, hkk, hkk2, rfl⟩ := HSP
                  have ht : ws.take i = ws := List.take_of_length_le (by rw [HN.out]; exact Nat.le_refl _)
                  rw [ht, hkk]
                  have HPL := Lib.hid hpl; have HSR := Lib.hid hsrt
                  have HKN : Hid (kk < i) := Lib.hid (by rw [HN.out] at hkk2; exact hkk2)
                  have HT0 : Hid (TopR a T ws d g1 gr 0 w2 wr) := Lib.hid (by
                    refine ⟨?_, ?_, HD.out.bel⟩
                    · have := HD.out.out; rw [ht, half_full _ (by rw [quoS_len, HN.out])] at this; rw [topS_zero]; exact this
                    · have := HD.out.rst; rw [ht, half_full _ (by rw [rstS_len, HN.out])] at this; rw [markS_zero]; exact this)
                  clear hpl hsrt hkk hkk2 ht hlt HD HG
                  have hkb := HKN.out
                  go_wp2_with fail
                  go_loopg [12] kk (fun gh vl wx => ∃ j : Nat, gh = kk - j ∧ j ≤ kk ∧ vl = .int .i64 ((kk : Int) - j) ∧ TopR a T ws d g1 gr j w2 wx)
                  case atStart => exact ⟨0, rfl, by omega, by go_num, HT0.out⟩
                  case round =>
                    obtain ⟨j, hgj, hj, rfl, htp⟩ := hrel
                    have HGJ := Lib.hid hgj; have HTP := Lib.hid htp
                    clear hgj htp
                    by_cases hlt : j < kk
                    · have HJD : Hid (j < d.length) := Lib.hid (by rw [HPL.out.len, HN.out]; omega)
                      have g0 : decide (0 < (kk : Int) - (j : Int)) = true := decide_eq_true (by omega)
                      go_wp2_with fail
                      clear g0
                      go_loopg [18, 19] i (fun gh vb vi wx => ∃ (p : Nat) (b : Int), gh = i - p ∧ p ≤ i ∧ vb = .int .i64 b ∧ vi = .int .i64 p ∧ Best (rstS a T ws) d j p b ∧ TopR a T ws d g1 gr j w2 wx)
                      case atStart => exact ⟨0, -1, rfl, by omega, rfl, rfl, Best.start _ _ _, HTP.out⟩
                      case round =>
                        obtain ⟨p, b, hgp, hp, rfl, rfl, hbest, htp⟩ := hrel
                        have HGP := Lib.hid hgp; have HBE := Lib.hid hbest; have HTQ := Lib.hid htp
                        clear hgp hbest htp HTP
                        by_cases hlp : p < i
                        · have hpw : p < ws.length := by rw [HN.out]; exact hlp
                          have hpr : p < (rstS a T ws).length := by rw [rstS_len]; exact hpw
                          have j1 : (0 : Int) ≤ (p : Int) := by omega
                          have j2 : (p : Int) < (i : Int) := by omega
                          have cp := blk_int (n := i) HTQ.out.rst (k := p) (by rw [markS_len]; exact hpr)
                          rw [markS_at _ _ _ _ hpr] at cp
                          have hr0 := rst_nonneg (a := a) p7 p hpw
                          have HGT := Lib.hid (gt_eq (rstS a T ws) p hpr)
                          by_cases hm : (p : Int) ∈ d.take j
                          · have HB' := Lib.hid (HBE.out.marked hm)
                            rw [if_pos hm] at cp
                            clear hm hr0 HGT hpr hpw
                            go_wp2_with fail
                            go_quiet (fail)
                            clear cp
                            go_wp2_with fail
                            go_roundg (i - (p + 1))
                            case measure => have := HGP.out; omega
                            case rel => exact ⟨p + 1, b, rfl, by omega, rfl, by go_num, HB'.out, HTQ.out.drewN _⟩
                          · rw [if_neg hm] at cp
                            have HFR := Lib.hid (fun hb => HBE.out.fresh hm hb)
                            have HST := Lib.hid (fun h0 hb => HBE.out.stays h0 hb)
                            rcases HBE.out.bd with hb1 | ⟨t, hbt, htp, hnt⟩
                            · have HF := Lib.hid (HFR.out (.inl (by omega)))
                              have d1 : decide ((rstS a T ws)[p] ≥ 0) = true := decide_eq_true hr0
                              have d1' : decide (0 ≤ (rstS a T ws)[p]) = true := decide_eq_true hr0
                              have d2 : decide (b < 0) = true := decide_eq_true (by omega)
                              clear hm HGT
                              generalize (rstS a T ws)[p] = v at *
                              clear hpr hpw hb1
                              go_wp2_with fail
                              go_quiet (fail)
                              clear cp d1 d1' d2
                              go_wp2_with fail
                              go_roundg (i - (p + 1))
                              case measure => have := HGP.out; omega
                              case rel => exact ⟨p + 1, p, rfl, by omega, rfl, by go_num, HF.out, HTQ.out.drewN _⟩
                            · subst hbt
                              have htw : t < ws.length := by rw [HN.out]; omega
                              have htr : t < (rstS a T ws).length := by rw [rstS_len]; exact htw
                              have ct := blk_int (n := i) HTQ.out.rst (k := t) (by rw [markS_len]; exact htr)
                              rw [markS_at _ _ _ _ htr, if_neg hnt] at ct
                              have e1 := gt_eq (rstS a T ws) t htr
                              have e2 := HGT.out
                              have HF : Hid ((rstS a T ws)[t] < (rstS a T ws)[p] → Best (rstS a T ws) d j (p + 1) p) := Lib.hid (fun h => HFR.out (.inr (by rw [Int.toNat_natCast, e1, e2]; exact h)))
                              have HS2 : Hid (¬ (rstS a T ws)[t] < (rstS a T ws)[p] → Best (rstS a T ws) d j (p + 1) t) := Lib.hid (fun h => HST.out (by omega) (by rw [Int.toNat_natCast, e1, e2]; exact h))
                              have d1' : decide (0 ≤ (rstS a T ws)[p]) = true := decide_eq_true hr0
                              have d2 : decide ((t : Int) < 0) = false := decide_eq_false (by omega)
                              have j3 : (0 : Int) ≤ (t : Int) := by omega
                              have j4 : (t : Int) < (i : Int) := by omega
                              clear hm HGT e1 e2 HFR HST hnt
                              generalize (rstS a T ws)[p] = v at *
                              generalize (rstS a T ws)[t] = u at *
                              clear hpr hpw htr htw
                              by_cases hlt2 : u < v
                              · have d3 : decide (u < v) = true := decide_eq_true hlt2
                                have HFF := Lib.hid (HF.out hlt2)
                                go_wp2_with fail
                                go_quiet (fail)
                                clear cp ct d1' d2 d3
                                go_wp2_with fail
                                go_roundg (i - (p + 1))
                                case measure => have := HGP.out; omega
                                case rel => exact ⟨p + 1, p, rfl, by omega, rfl, by go_num, HFF.out, HTQ.out.drewN _⟩
                              · have d3 : decide (u < v) = false := decide_eq_false hlt2
                                have HFF := Lib.hid (HS2.out hlt2)
                                go_wp2_with fail
                                go_quiet (fail)
                                clear cp ct d1' d2 d3
                                go_wp2_with fail
                                go_roundg (i - (p + 1))
                                case measure => have := HGP.out; omega
                                case rel => exact ⟨p + 1, t, rfl, by omega, rfl, by go_num, HFF.out, HTQ.out.drewN _⟩
                        · have hpi : p = i := by omega
                          subst hpi
                          have hdj := HPL.out.at HJD.out
                          obtain ⟨t, ept, ht⟩ := hdj
                          have hb := HBE.out.is (by have := HPL.out; rwa [HN.out] at this) (by have := HSR.out; rwa [HN.out] at this) (by omega)
                          rw [gt_eq _ _ HJD.out, ept] at hb
                          subst hb
                          have htw : t < ws.length := ht
                          have htp2 : t < p := by rw [HN.out] at htw; exact htw
                          have hto : t < (topS (quoS a T ws) d j).length := by rw [topS_len, quoS_len]; exact htw
                          have co := blk_int (n := p) HTQ.out.out (k := t) hto
                          have fo := blk_free HTQ.out.out t
                          obtain ⟨vr, cr⟩ : ∃ v, wr.cell? ⟨gr, t, none⟩ = some v := ⟨_, blk_int (n := p) HTQ.out.rst (k := t) (by rw [markS_len, rstS_len]; exact htw)⟩
                          have hbd := topS_bd (a := a) p7 (fun x hx => (HLE.out x hx).1) hA d j t (by rw [quoS_len]; exact htw)
                          obtain ⟨v, hv⟩ : ∃ v, (topS (quoS a T ws) d j)[t]'hto = v := ⟨_, rfl⟩
                          have HSTP := Lib.hid (HTQ.out.step (v := v) a1 b1 b2 HPL.out.nodup HJD.out ept htw hv)
                          rw [hv] at co hbd
                          clear hv ept
                          obtain ⟨v1, v2⟩ := hbd
                          have cr2 := far_cell (j := t) cr (Ne.symm a1) (.int .i64 (v + 1))
                          have fr2 := blk_free (blk_far (p := ⟨g1, t, none⟩) HTQ.out.rst (Ne.symm a1) (.int .i64 (v + 1))) t
                          have j1 : (0 : Int) ≤ (t : Int) := by omega
                          have j2 : (t : Int) < (p : Int) := by omega
                          have s1 : IntKind.i64.wrap (v + 1) = v + 1 := IntWalk.i64_in _ (by omega)
                          have s2 : IntKind.i64.wrap ((kk : Int) - (j : Int) - 1) = (kk : Int) - (j : Int) - 1 := IntWalk.i64_in _ (by omega)
                          clear hto htw
                          go_wp2_with fail
                          go_roundg (kk - (j + 1))
                          case measure => have := HGJ.out; omega
                          case rel => exact ⟨j + 1, rfl, by omega, by rw [show (kk : Int) - (j : Int) - 1 = (kk : Int) - ((j + 1 : Nat) : Int) by omega], HSTP.out⟩
                    · have hjk : j = kk := by omega
                      subst hjk
                      go_wp2_with fail
                      go_ret2
                      refine ⟨HB2.out.trans (HTP.out.bel.mono HB2.out.size), .inr ⟨HOK.out, g1, i, by rw [HN.out]; rfl, ?_⟩⟩
                      rw [HN.out]
                      exact ⟨by rw [ints_len, topS_len, quoS_len, HN.out]; omega, fun _ => ⟨g1, 0, rfl, blk_lt HTP.out.out, fun i' hi => by rw [Nat.zero_add]; exact (blk_cell HTP.out.out i').trans (by simp)⟩⟩
            · have HE := Lib.hid (okSp_sum (a := a) hs)
              rcases sumS_e ws with e | e | e
              · have e1 : (sumS ws).1 = 0 := by
                  by_cases e1 : (sumS ws).1 = 0
                  · exact e1
                  · exact absurd ⟨e, e1⟩ hs
                have e2 : sumS ws = (0, 0) := Prod.ext e1 e
                rw [e2]
                clear e e1 e2 hs
                go_wp2_with fail
                go_ret2
                exact SplitAs.no HE.out HB2.out
              · have e2 : pr (sumS ws) = .tuple #[.int .i64 (sumS ws).1, .int .i64 1] := by rw [pr, e]
                rw [e2]
                clear e e2 hs
                go_wp2_with fail
                go_ret2
                exact SplitAs.no HE.out HB2.out
              · have e2 : pr (sumS ws) = .tuple #[.int .i64 (sumS ws).1, .int .i64 2] := by rw [pr, e]
                rw [e2]
                clear e e2 hs
                go_wp2_with fail
                go_ret2
                exact SplitAs.no HE.out HB2.out
      · have HE := Lib.hid (okSp_len (a := a) (ws := ws) (by rw [HN.out]; omega))
        have i2 : 64 < (n : Int) := by omega
        clear ha
        go_enter Try.func19, Try.ntmps19
        go_wp2_with fail
        refine (is_ref a w).mono ?_; rintro e w' ⟨rfl, rfl⟩
        rw [HA.out]
        go_wp2_with fail
        go_ret2
        exact SplitAs.no HE.out (Below.refl _ _)
    · have HE := Lib.hid (okSp_len (a := a) (ws := ws) (by rw [HN.out]; omega))
      have i2 : (n : Int) < 1 := by omega
      clear ha
      go_enter Try.func19, Try.ntmps19
      go_wp2_with fail
      refine (is_ref a w).mono ?_; rintro e w' ⟨rfl, rfl⟩
      rw [HA.out]
      go_wp2_with fail
      go_ret2
      exact SplitAs.no HE.out (Below.refl _ _)
  · have HE := Lib.hid (okSp_amt (ws := ws) ha)
    have HA := Lib.hid (Bool.eq_false_iff.2 ha); clear ha
    go_enter Try.func19, Try.ntmps19
    go_wp2_with fail
    refine (is_ref a w).mono ?_; rintro e w' ⟨rfl, rfl⟩
    rw [HA.out]
    go_wp2_with fail
    go_ret2
    exact SplitAs.no HE.out (Below.refl _ _)
end Go.Proofs.Ytjimahagfkpacaa
