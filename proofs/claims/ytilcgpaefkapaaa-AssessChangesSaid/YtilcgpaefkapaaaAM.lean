/- assess: day, Months, late, right; the reference's. -/
import Derived.Test.YtilcgpaefkapaaaCR
import Derived.Test.YtilcgpaefkapaaaBL
namespace Go.Proofs.Ytilcgpaefkapaaa
open Go.RowKit Go
set_option linter.unusedVariables false
set_option linter.unusedSimpArgs false

theorem day_any (A : Option Addr) (zs : List Int) (c : Nat) (w : World) (hr : Rd w w.heap.size 1 A zs.length (ints zs)) (hm : zs.length ≤ maxLen) :
    Calls Try.prog 20 #[.slice A zs.length c] w fun e w' => e = .returned (.bool (zs.all dayB)) ∧ w = w' := by
  unfold maxLen at hm
  go_enter Try.func20, Try.ntmps20
  go_wp2
  go_loop [7] (fun i => ∃ k : Nat, k ≤ zs.length ∧ i = .int .i64 k ∧ (zs.take k).all dayB = true) (fun i => zs.length - (intOf i).toNat)
  case atStart => exact ⟨0, Nat.zero_le _, rfl, rfl⟩
  case round =>
    obtain ⟨k, hk, rfl, hall⟩ := hrel
    have HA := Lib.hid hall; clear hall
    by_cases hlt : k < zs.length
    · obtain ⟨b, off, rfl, hb, hc⟩ := hr.2 (by omega)
      have hcell := (hc k (by omega)).trans (ints_at zs k hlt)
      clear hc
      by_cases ha : dayB zs[k] = true
      · have hb := dayB_yes ha
        have HX := Lib.hid ha; clear ha
        go_wp2
        exact ⟨⟨k + 1, by omega, by go_num, by rw [all_snoc _ _ _ hlt, HA.out, HX.out]; rfl⟩, by simp [intOf]; omega⟩
      · have hb := dayB_no ha
        have HX := Lib.hid (all_no dayB zs k hlt ha); clear ha
        go_wp2
        all_goals (go_ret; exact ⟨ret_bool HX.out.symm, rfl⟩)
    · go_wp2
      go_ret
      exact ⟨ret_bool (by rw [← HA.out, List.take_of_length_le (by omega)]), rfl⟩
theorem day2 (a b : Int) (w : World) : Calls Try.prog 20 #[.slice (some ⟨w.heap.size, 0, none⟩) 2 2] (w.alloc (.cells #[.int .i64 a, .int .i64 b] 3)) fun e w' => e = .returned (.bool (dayB a && dayB b)) ∧ w.alloc (.cells #[.int .i64 a, .int .i64 b] 3) = w' :=
  (day_any (some ⟨w.heap.size, 0, none⟩) [a, b] 2 _ (Rd.fresh w #[.int .i64 a, .int .i64 b] 3 2 1 rfl) (by simp [maxLen])).mono fun _ _ ⟨h, g⟩ => ⟨by rw [h]; simp, g⟩

noncomputable def lateS (due filed : Int) : Int × Int := if dayB due && dayB filed then (((lateD due.toNat filed.toNat : Nat) : Int), 0) else (0, 1)
theorem lateD_bd {D F : Nat} (hD : D ≤ 3652058) (hF : F ≤ 3652058) : lateD D F ≤ 120000 := by
  obtain ⟨y, m, d, g, hy⟩ := day_ex hD
  obtain ⟨y1, m1, d1, g1, hy1⟩ := day_ex hF
  unfold lateD
  rw [mi_eq g, mi_eq g1]
  have := g.2.1; have := g1.2.1; have := g.1
  unfold lateM
  split
  · omega
  · split <;> simp only <;> omega
set_option maxHeartbeats 1600000 in
theorem amonths_any (due filed : Int) (w : World) : Calls Try.prog 10 #[.int .i64 due, .int .i64 filed] w fun e w' => e = .returned (pr (lateS due filed)) ∧ Below w.heap.size w w' := by
  by_cases hdf : (dayB due && dayB filed) = true
  · obtain ⟨h1, h2⟩ : dayB due = true ∧ dayB filed = true := by simpa using hdf
    have b1 := dayB_yes h1; have b2 := dayB_yes h2
    obtain ⟨D, rfl⟩ : ∃ D : Nat, due = (D : Int) := ⟨due.toNat, by omega⟩
    obtain ⟨F, rfl⟩ : ∃ F : Nat, filed = (F : Int) := ⟨filed.toNat, by omega⟩
    have hD : D ≤ 3652058 := by omega
    have hF : F ≤ 3652058 := by omega
    have HS : Hid (lateS (D : Int) (F : Int) = (((lateD D F : Nat) : Int), 0)) := if_pos hdf
    clear h1 h2 b1 b2
    by_cases hle : F ≤ D
    · have HL : Hid (lateD D F = 0) := if_pos hle
      have hle' : (F : Int) ≤ (D : Int) := by omega
      go_enter Try.func10, Try.ntmps10
      go_wp2_with fail
      refine (day2 D F w).mono ?_; rintro e w' ⟨rfl, rfl⟩
      rw [hdf]; clear hdf
      go_wp2_with fail
      go_ret2
      exact ⟨ret_pr (by rw [HS.out, HL.out]; rfl), below_new _ _⟩
    · have hle' : ¬ (F : Int) ≤ (D : Int) := by omega
      have HL : Hid (lateD D F = lateM (mi D).1 (mi D).2 (mi F).1 (mi F).2) := if_neg hle
      go_enter Try.func10, Try.ntmps10
      go_wp2_with fail
      refine (day2 D F w).mono ?_; rintro e w' ⟨rfl, rfl⟩
      rw [hdf]; clear hdf
      go_wp2_with fail
      refine (date_any D _ hD).mono ?_; rintro e w1 ⟨⟨y, m, d, hd, hy, rfl⟩, hw1⟩
      have HD := Lib.hid hd; have HW1 := Lib.hid hw1; clear hd hw1
      go_wp2_with fail
      refine (date_any F _ hF).mono ?_; rintro e w2 ⟨⟨z, k, f, hf, hz, rfl⟩, hw2⟩
      have HFF := Lib.hid hf; have HW2 := Lib.hid hw2; clear hf hw2
      have hord := HD.out.order HFF.out (by omega)
      have hm := HD.out.2.1; have hk := HFF.out.2.1
      obtain ⟨Z, hZ⟩ : ∃ Z, Z = z - y := ⟨_, rfl⟩
      obtain ⟨n, hn⟩ : ∃ n, n = 12 * Z + k - m := ⟨_, rfl⟩
      have hzy : y ≤ z := by omega
      have s1 : IntKind.i64.wrap ((z : Int) - y) = (Z : Int) := by rw [IntWalk.i64_in _ (by omega)]; omega
      have s2 : IntKind.i64.wrap (12 * (Z : Int) + k - m) = (n : Int) := by rw [IntWalk.i64_in _ (by omega)]; omega
      have hZb : Z ≤ 10000 := by omega
      have hmb : m ≤ 12 := hm.2
      have hkb : k ≤ 12 := hk.2
      have hnb : n ≤ 120000 := by omega
      have HIJ : Hid (12 * y + (m - 1) + n = 12 * z + (k - 1)) := by show _ = _; omega
      have HN : Hid (n = (12 * z + (k - 1)) - (12 * y + (m - 1))) := by show _ = _; omega
      have HMS : Hid (F = ms (12 * z + (k - 1)) + (f - 1)) := HFF.out.ms.1
      have HF1 : Hid (1 ≤ f) := HFF.out.ms.2.2.1
      have HD1 : Hid (1 ≤ d ∧ 28 ≤ mlen (12 * z + (k - 1))) := ⟨HD.out.ms.2.2.1, (ml_bd _ _).1⟩
      have HA : Hid (addD D n = some (ms (12 * z + (k - 1)) + (min d (mlen (12 * z + (k - 1))) - 1))) := by
        show _ = _; unfold addD; rw [mi_eq HD.out]; simp only; rw [addM_some (by rw [HIJ.out]; omega), HIJ.out]
      have HLL : Hid (lateD D F = if min d (mlen (12 * z + (k - 1))) < f then n + 1 else n) := by
        show _ = _; rw [HL.out, mi_eq HD.out, mi_eq HFF.out]; simp only [lateM]; rw [← HN.out]
      obtain ⟨x, hx⟩ : ∃ x, ms (12 * z + (k - 1)) + (min d (mlen (12 * z + (k - 1))) - 1) = x := ⟨_, rfl⟩
      rw [hx] at HA
      have HX := Lib.hid hx
      clear hx hord hm hk hZ hn hzy
      have HMM := Lib.hid (months_any D n w2 hD hnb)
      have HB2 : Hid (Below w.heap.size w w2) := ((below_new w _).trans (HW1.out.mono (by simp))).trans (HW2.out.mono (by have := HW1.out.size; simp at this; omega))
      go_wp2_with fail
      refine HMM.out.mono ?_; rintro e w3 ⟨rfl, hw3⟩
      have HB3 : Hid (Below w.heap.size w w3) := HB2.out.trans (hw3.mono HB2.out.size)
      clear hw3
      rw [HA.out]
      simp only [monthsV]
      by_cases hxf : x < F
      · have HE : Hid (lateD D F = n + 1) := by
          show _ = _; rw [HLL.out, if_pos]
          have := HX.out; have := HMS.out; have := HF1.out; have := HD1.out; omega
        go_wp2_with fail
        go_ret2
        exact ⟨ret_pr (by rw [HS.out, HE.out]; simp), HB3.out⟩
      · have HE : Hid (lateD D F = n) := by
          show _ = _; rw [HLL.out, if_neg]
          have := HX.out; have := HMS.out; have := HF1.out; have := HD1.out; omega
        go_wp2_with fail
        go_ret2
        exact ⟨ret_pr (by rw [HS.out, HE.out]), HB3.out⟩
  · have HS : Hid (lateS due filed = (0, 1)) := if_neg hdf
    go_enter Try.func10, Try.ntmps10
    go_wp2_with fail
    refine (day2 due filed w).mono ?_; rintro e w' ⟨rfl, rfl⟩
    rw [Bool.eq_false_iff.2 hdf]; clear hdf
    go_wp2_with fail
    go_ret2
    exact ⟨ret_pr HS.out, below_new _ _⟩

theorem isDay_any (n : Int) (w : World) : Calls Try.prog 23 #[.int .i64 n] w fun e w' => e = .returned (.bool (dayB n)) ∧ w = w' := by
  by_cases h : dayB n = true
  · have h1 := dayB_yes h
    have H := Lib.hid h; clear h
    go_enter Try.func23, Try.ntmps23
    go_wp2
    go_ret
    exact ⟨ret_bool H.out.symm, rfl⟩
  · have h1 := dayB_no h
    have H := Lib.hid (Bool.eq_false_iff.2 h); clear h
    rcases h1 with h1 | h1
    all_goals
      go_enter Try.func23, Try.ntmps23
      go_wp2
      all_goals go_ret
      all_goals exact ⟨ret_bool (by first | exact H.out.symm | (rw [H.out]; simp; omega)), rfl⟩
theorem isMoney_any (n : Int) (w : World) : Calls Try.prog 35 #[.int .i64 n] w fun e w' => e = .returned (.bool (mny n)) ∧ w = w' := by
  by_cases h : mny n = true
  · have h1 := mny_yes h
    have H := Lib.hid h; clear h
    go_enter Try.func35, Try.ntmps35
    go_wp2
    go_ret
    exact ⟨ret_bool H.out.symm, rfl⟩
  · have h1 := mny_no h
    have H := Lib.hid (Bool.eq_false_iff.2 h); clear h
    rcases h1 with h1 | h1
    all_goals
      go_enter Try.func35, Try.ntmps35
      go_wp2
      all_goals go_ret
      all_goals exact ⟨ret_bool (by first | exact H.out.symm | (rw [H.out]; simp; omega)), rfl⟩
theorem monthsV_cases (o : Option Nat) : (∃ x, o = some x ∧ monthsV o = ((x : Int), 0)) ∨ (o = none ∧ monthsV o = (0, 2)) := by
  cases o with
  | some x => exact .inl ⟨x, rfl, rfl⟩
  | none => exact .inr ⟨rfl, rfl⟩
set_option maxHeartbeats 1600000 in
theorem rmonthsD_any (due filed : Int) (w : World) : Calls Try.prog 11 #[.int .i64 due, .int .i64 filed] w fun e w' => e = .returned (pr (lateS due filed)) ∧ w = w' := by
  by_cases h1 : dayB due = true
  · by_cases h2 : dayB filed = true
    · have b1 := dayB_yes h1; have b2 := dayB_yes h2
      have HS0 : Hid (lateS due filed = (((lateD due.toNat filed.toNat : Nat) : Int), 0)) := if_pos (by rw [h1, h2]; rfl)
      obtain ⟨D, rfl⟩ : ∃ D : Nat, due = (D : Int) := ⟨due.toNat, by omega⟩
      obtain ⟨F, rfl⟩ : ∃ F : Nat, filed = (F : Int) := ⟨filed.toNat, by omega⟩
      have hD : D ≤ 3652058 := by omega
      have hF : F ≤ 3652058 := by omega
      have HS : Hid (lateS (D : Int) (F : Int) = (((lateD D F : Nat) : Int), 0)) := HS0
      clear b1 b2 HS0
      obtain ⟨L, hL⟩ : ∃ L, lateD D F = L := ⟨_, rfl⟩
      have hLb := lateD_bd hD hF
      have HLT : Hid (∀ n, n < L → ∃ x, addD D n = some x ∧ x < F) := Lib.hid (fun n hn => late_lt hD hF (by rw [hL]; exact hn))
      have HEQ : Hid (∀ x, addD D L = some x → F ≤ x) := Lib.hid (fun x hx => late_eq hD hF x (by rw [hL]; exact hx))
      rw [hL] at hLb HS
      clear hL
      go_enter Try.func11, Try.ntmps11
      go_wp2_with fail
      refine (isDay_any D w).mono ?_; rintro e w' ⟨rfl, rfl⟩
      rw [h1]; clear h1
      go_wp2_with fail
      refine (isDay_any F w).mono ?_; rintro e w' ⟨rfl, rfl⟩
      rw [h2]; clear h2
      go_wp2_with fail
      go_loopg [8, 9, 10] L (fun g v8 v9 v10 wr => ∃ n : Nat, g = L - n ∧ n ≤ L ∧ v8 = .int .i64 n ∧ wr = w)
      case atStart => exact ⟨0, rfl, by omega, rfl, rfl⟩
      case round =>
        obtain ⟨n, hg, hn, rfl, rfl⟩ := hrel
        have HG := Lib.hid hg; clear hg
        have HM := Lib.hid (rmonths_any D n wr hD (by omega))
        go_wp2_with fail
        refine HM.out.mono ?_; rintro e w' ⟨rfl, rfl⟩
        by_cases hlt : n < L
        · obtain ⟨x, hx, hxf⟩ := HLT.out n hlt
          have e : monthsV (addD D n) = ((x : Int), 0) := by rw [hx]; rfl
          rw [e]
          clear e hx
          go_wp2_with fail
          go_roundg (L - (n + 1))
          case measure => have := HG.out; omega
          case rel => exact ⟨n + 1, rfl, by omega, by go_num, rfl⟩
        · have hnL : n = L := by omega
          rcases monthsV_cases (addD D n) with ⟨x, hx, e⟩ | ⟨hx, e⟩
          · have hxf := HEQ.out x (by rw [← hnL]; exact hx)
            rw [e]
            clear e hx
            go_wp2_with fail
            go_ret2
            exact ⟨ret_pr (by rw [HS.out]), rfl⟩
          · rw [e]
            clear e hx
            go_wp2_with fail
            go_ret2
            exact ⟨ret_pr (by rw [HS.out]), rfl⟩
    · have HS : Hid (lateS due filed = (0, 1)) := if_neg (by simp [h2])
      go_enter Try.func11, Try.ntmps11
      go_wp2_with fail
      refine (isDay_any due w).mono ?_; rintro e w' ⟨rfl, rfl⟩
      rw [h1]; clear h1
      go_wp2_with fail
      refine (isDay_any filed w).mono ?_; rintro e w' ⟨rfl, rfl⟩
      rw [Bool.eq_false_iff.2 h2]; clear h2
      go_wp2_with fail
      go_ret2
      exact ⟨ret_pr HS.out, rfl⟩
  · have HS : Hid (lateS due filed = (0, 1)) := if_neg (by simp [h1])
    go_enter Try.func11, Try.ntmps11
    go_wp2_with fail
    refine (isDay_any due w).mono ?_; rintro e w' ⟨rfl, rfl⟩
    rw [Bool.eq_false_iff.2 h1]; clear h1
    go_wp2_with fail
    refine (isDay_any filed w).mono ?_; rintro e w' ⟨rfl, rfl⟩
    go_wp2_with fail
    go_ret2
    exact ⟨ret_pr HS.out, rfl⟩
set_option maxHeartbeats 1600000 in
theorem few_any (D F : Nat) (w : World) (hD : D ≤ 3652058) (hF : F ≤ 3652058) : Calls Try.prog 29 #[.int .i64 D, .int .i64 F] w fun e w' => e = .returned (.int .i64 (min (lateD D F) 61 : Nat)) ∧ w = w' := by
  obtain ⟨L, hL⟩ : ∃ L, lateD D F = L := ⟨_, rfl⟩
  have HLT : Hid (∀ n, n < L → ∃ x, addD D n = some x ∧ x < F) := Lib.hid (fun n hn => late_lt hD hF (by rw [hL]; exact hn))
  have HEQ : Hid (∀ x, addD D L = some x → F ≤ x) := Lib.hid (fun x hx => late_eq hD hF x (by rw [hL]; exact hx))
  rw [hL]
  clear hL
  go_enter Try.func29, Try.ntmps29
  go_wp2_with fail
  go_loopg [5, 6, 7] 61 (fun g v5 v6 v7 wr => ∃ n : Nat, g = 61 - n ∧ n ≤ L ∧ n ≤ 61 ∧ v5 = .int .i64 n ∧ wr = w)
  case atStart => exact ⟨0, rfl, by omega, by omega, rfl, rfl⟩
  case round =>
    obtain ⟨n, hg, hn, hn2, rfl, rfl⟩ := hrel
    have HG := Lib.hid hg; clear hg
    by_cases h61 : n < 61
    · have HM := Lib.hid (rmonths_any D n wr hD (by omega))
      go_wp2_with fail
      refine HM.out.mono ?_; rintro e w' ⟨rfl, rfl⟩
      by_cases hlt : n < L
      · obtain ⟨x, hx, hxf⟩ := HLT.out n hlt
        have e : monthsV (addD D n) = ((x : Int), 0) := by rw [hx]; rfl
        rw [e]
        clear e hx
        go_wp2_with fail
        go_roundg (61 - (n + 1))
        case measure => have := HG.out; omega
        case rel => exact ⟨n + 1, rfl, by omega, by omega, by go_num, rfl⟩
      · have hnL : n = L := by omega
        have HE : Hid (min L 61 = n) := by show _ = _; omega
        rcases monthsV_cases (addD D n) with ⟨x, hx, e⟩ | ⟨hx, e⟩
        · have hxf := HEQ.out x (by rw [← hnL]; exact hx)
          rw [e]
          clear e hx
          go_wp2_with fail
          go_ret
          exact ⟨by rw [HE.out]; first | rfl | (rw [hnL]; rfl) | (rw [hn61]; rfl), rfl⟩
        · rw [e]
          clear e hx
          go_wp2_with fail
          go_ret
          exact ⟨by rw [HE.out]; first | rfl | (rw [hnL]; rfl) | (rw [hn61]; rfl), rfl⟩
    · have hn61 : n = 61 := by omega
      have HE : Hid (min L 61 = n) := by show _ = _; omega
      go_wp2_with fail
      go_ret
      exact ⟨by rw [HE.out]; first | rfl | (rw [hnL]; rfl) | (rw [hn61]; rfl), rfl⟩
end Go.Proofs.Ytilcgpaefkapaaa
