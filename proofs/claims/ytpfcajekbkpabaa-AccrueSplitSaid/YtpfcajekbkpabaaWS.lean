/- The walks of AccrueSimple, AccrueYears, AccrueRises. -/
import Derived.Test.YtpfcajekbkpabaaS2
namespace Go.Proofs.Ytpfcajekbkpabaa
open Go.RowKit Go
set_option linter.unusedVariables false
set_option linter.unusedSimpArgs false

theorem awake_any (w : World) : Calls Try.prog 8 #[] w fun e w' => e = .returned (.bool true) ∧ Below w.heap.size w w' := by
  have E : Hid (simpleS 10000 365 100 = (100, 0)) := by show _ = _; decide
  go_enter Try.func8, Try.ntmps8
  go_wp2_with fail
  refine (simple_any 10000 365 100 w).mono ?_; rintro e w1 ⟨rfl, hw1⟩; obtain ⟨hc1, hf1⟩ := bcell hw1; have hz1 := hw1.size; (try simp only [World.size_alloc, World.size_setCell, World.size_drew, size_drewN, Nat.add_one_le_iff] at hz1); (try have hy1 : w.heap.size < w1.heap.size := by omega); (try have hx1 : w.heap.size + 1 < w1.heap.size := by omega); have HW1 := Lib.hid hw1; clear hw1
  rw [E.out]
  go_wp2_with fail
  go_ret
  exact ⟨rfl, (by repeat' (first | (with_reducible exact Below.refl _ _) | (with_reducible refine Below.alloc ?_ ?_ _) | (with_reducible refine below_drewN ?_ _) | (with_reducible refine Below.drew ?_) | (with_reducible refine Below.setCell ?_ ?_ _) | (with_reducible refine Below.trans ?_ (Below.mono HW0.out ?_)) | (with_reducible refine Below.trans ?_ (Below.mono HW1.out ?_)) | (with_reducible refine Below.trans ?_ (Below.mono HW2.out ?_)) | (with_reducible refine Below.trans ?_ (Below.mono HW3.out ?_)) | (with_reducible refine Below.trans ?_ (Below.mono HW4.out ?_)) | (with_reducible refine Below.trans ?_ (Below.mono HW5.out ?_)) | (with_reducible refine Below.trans ?_ (Below.mono HW6.out ?_)) | (with_reducible refine Below.trans ?_ (Below.mono HW7.out ?_)) | (with_reducible exact Nat.le_refl _) | omega | (simp only [World.size_alloc, World.size_setCell, World.size_drew, size_drewN]; omega) | (simp; done) | (simp; omega)))⟩

theorem accrueSimple_walk (p bp d : Int) (w : World) : Calls Try.prog 3 #[.int .i64 p, .int .i64 bp, .int .i64 d] w fun e w' => e = .returned (.bool true) ∧ Below w.heap.size w w' := by
  go_enter Try.func3, Try.ntmps3
  go_wp2_with fail
  refine (awake_any w).mono ?_; rintro e w1 ⟨rfl, hw1⟩; obtain ⟨hc1, hf1⟩ := bcell hw1; have hz1 := hw1.size; (try simp only [World.size_alloc, World.size_setCell, World.size_drew, size_drewN, Nat.add_one_le_iff] at hz1); (try have hy1 : w.heap.size < w1.heap.size := by omega); (try have hx1 : w.heap.size + 1 < w1.heap.size := by omega); have HW1 := Lib.hid hw1; clear hw1
  go_wp2_with fail
  refine (simple_any p bp d _).mono ?_; rintro e w2 ⟨rfl, hw2⟩; obtain ⟨hc2, hf2⟩ := bcell hw2; have hz2 := hw2.size; (try simp only [World.size_alloc, World.size_setCell, World.size_drew, size_drewN, Nat.add_one_le_iff] at hz2); (try have hy2 : w.heap.size < w2.heap.size := by omega); (try have hx2 : w.heap.size + 1 < w2.heap.size := by omega); have HW2 := Lib.hid hw2; clear hw2
  go_wp2_with fail
  refine (rsimple_any p bp d _).mono ?_; rintro e w3 ⟨rfl, hw3⟩; obtain ⟨hc3, hf3⟩ := bcell hw3; have hz3 := hw3.size; (try simp only [World.size_alloc, World.size_setCell, World.size_drew, size_drewN, Nat.add_one_le_iff] at hz3); (try have hy3 : w.heap.size < w3.heap.size := by omega); (try have hx3 : w.heap.size + 1 < w3.heap.size := by omega); have HW3 := Lib.hid hw3; clear hw3
  go_wp2_with fail
  go_ret
  exact ⟨rfl, (by repeat' (first | (with_reducible exact Below.refl _ _) | (with_reducible refine Below.alloc ?_ ?_ _) | (with_reducible refine below_drewN ?_ _) | (with_reducible refine Below.drew ?_) | (with_reducible refine Below.setCell ?_ ?_ _) | (with_reducible refine Below.trans ?_ (Below.mono HW0.out ?_)) | (with_reducible refine Below.trans ?_ (Below.mono HW1.out ?_)) | (with_reducible refine Below.trans ?_ (Below.mono HW2.out ?_)) | (with_reducible refine Below.trans ?_ (Below.mono HW3.out ?_)) | (with_reducible refine Below.trans ?_ (Below.mono HW4.out ?_)) | (with_reducible refine Below.trans ?_ (Below.mono HW5.out ?_)) | (with_reducible refine Below.trans ?_ (Below.mono HW6.out ?_)) | (with_reducible refine Below.trans ?_ (Below.mono HW7.out ?_)) | (with_reducible exact Nat.le_refl _) | omega | (simp only [World.size_alloc, World.size_setCell, World.size_drew, size_drewN]; omega) | (simp; done) | (simp; omega)))⟩

set_option maxHeartbeats 800000 in
theorem rmulDiv_any (a b c : Int) (w : World) : Calls Try.prog 11 #[.int .i64 a, .int .i64 b, .int .i64 c] w fun e w' => e = .returned (pr (mulDivS a b c)) ∧ Below w.heap.size w w' := by
  by_cases h : (amt a && amt b) = true
  · by_cases hc : amt c = true
    · have h0 : amt a = true ∧ amt b = true := by simpa using h
      have ha := amt_yes h0.1
      have hb := amt_yes h0.2
      have hcc := amt_yes hc
      have ha2 := amt_abs2 h0.1; have hb2 := amt_abs2 h0.2
      have hmb := mul_big h0.1 h0.2
      by_cases h1 : 1 ≤ c
      · have H : Hid (mulDivS a b c = told (a * b / c)) := by show _ = _; rw [mulDivS, if_pos (by simp at h; simp [h, hc, h1])]
        clear h0
        go_enter Try.func11, Try.ntmps11
        go_wp2_with fail
        refine (both_any a b _).mono ?_; rintro e w' ⟨rfl, rfl⟩
        rw [h]; clear h
        go_wp2_with fail
        refine (is_ref c _).mono ?_; rintro e w' ⟨rfl, rfl⟩
        rw [hc]; clear hc
        go_wp2_with fail
        refine (of_any a _ (by omega)).mono ?_; rintro e w1 ⟨rfl, hw1⟩; obtain ⟨hc1, hf1⟩ := bcell hw1; have hz1 := hw1.size; (try simp only [World.size_alloc, World.size_setCell, World.size_drew, size_drewN, Nat.add_one_le_iff] at hz1); (try have hy1 : w.heap.size < w1.heap.size := by omega); (try have hx1 : w.heap.size + 1 < w1.heap.size := by omega); have HW1 := Lib.hid hw1; clear hw1
        go_wp2_with fail
        refine (of_any b _ (by omega)).mono ?_; rintro e w2 ⟨rfl, hw2⟩; obtain ⟨hc2, hf2⟩ := bcell hw2; have hz2 := hw2.size; (try simp only [World.size_alloc, World.size_setCell, World.size_drew, size_drewN, Nat.add_one_le_iff] at hz2); (try have hy2 : w.heap.size < w2.heap.size := by omega); (try have hx2 : w.heap.size + 1 < w2.heap.size := by omega); have HW2 := Lib.hid hw2; clear hw2
        go_wp2_with fail
        refine (wmul_any _ _ _ _ _ ha2 hb2).mono ?_; rintro e w3 ⟨rfl, hw3⟩; obtain ⟨hc3, hf3⟩ := bcell hw3; have hz3 := hw3.size; (try simp only [World.size_alloc, World.size_setCell, World.size_drew, size_drewN, Nat.add_one_le_iff] at hz3); (try have hy3 : w.heap.size < w3.heap.size := by omega); (try have hx3 : w.heap.size + 1 < w3.heap.size := by omega); have HW3 := Lib.hid hw3; clear hw3
        go_wp2_with fail
        refine (wdiv_any _ _ c _ hmb.1 hmb.2 h1 hcc.2).mono ?_
        intro e w4 h6; obtain ⟨n', q, rfl, hq0, hq1, hq2, hw4⟩ := DivRes.pre h6; clear h6; obtain ⟨hc4, hf4⟩ := bcell hw4; have hz4 := hw4.size; (try simp only [World.size_alloc, World.size_setCell, World.size_drew, size_drewN, Nat.add_one_le_iff] at hz4); (try have hy4 : w.heap.size < w4.heap.size := by omega); (try have hx4 : w.heap.size + 1 < w4.heap.size := by omega); have HW4 := Lib.hid hw4; clear hw4
        go_wp2_with fail
        refine (wtold_any n' q _ hq0 (by omega)).mono ?_; rintro e w5 ⟨rfl, hw5⟩; obtain ⟨hc5, hf5⟩ := bcell hw5; have hz5 := hw5.size; (try simp only [World.size_alloc, World.size_setCell, World.size_drew, size_drewN, Nat.add_one_le_iff] at hz5); (try have hy5 : w.heap.size < w5.heap.size := by omega); (try have hx5 : w.heap.size + 1 < w5.heap.size := by omega); have HW5 := Lib.hid hw5; clear hw5
        go_wp2_with fail
        go_ret2
        exact ⟨ret_pr (by rw [H.out, hq2.out, wz_mul]), (by repeat' (first | (with_reducible exact Below.refl _ _) | (with_reducible refine Below.alloc ?_ ?_ _) | (with_reducible refine below_drewN ?_ _) | (with_reducible refine Below.drew ?_) | (with_reducible refine Below.setCell ?_ ?_ _) | (with_reducible refine Below.trans ?_ (Below.mono HW0.out ?_)) | (with_reducible refine Below.trans ?_ (Below.mono HW1.out ?_)) | (with_reducible refine Below.trans ?_ (Below.mono HW2.out ?_)) | (with_reducible refine Below.trans ?_ (Below.mono HW3.out ?_)) | (with_reducible refine Below.trans ?_ (Below.mono HW4.out ?_)) | (with_reducible refine Below.trans ?_ (Below.mono HW5.out ?_)) | (with_reducible refine Below.trans ?_ (Below.mono HW6.out ?_)) | (with_reducible refine Below.trans ?_ (Below.mono HW7.out ?_)) | (with_reducible exact Nat.le_refl _) | omega | (simp only [World.size_alloc, World.size_setCell, World.size_drew, size_drewN]; omega) | (simp; done) | (simp; omega)))⟩
      · have H : Hid (mulDivS a b c = (0, 1)) := by show _ = _; rw [mulDivS, if_neg (by simp [h1])]
        clear h0
        go_enter Try.func11, Try.ntmps11
        go_wp2_with fail
        refine (both_any a b _).mono ?_; rintro e w' ⟨rfl, rfl⟩
        rw [h]; clear h
        go_wp2_with fail
        refine (is_ref c _).mono ?_; rintro e w' ⟨rfl, rfl⟩
        rw [hc]; clear hc
        go_wp2_with fail
        go_ret2
        exact ⟨ret_pr H.out, Below.refl _ _⟩
    · have H : Hid (mulDivS a b c = (0, 1)) := by show _ = _; rw [mulDivS, if_neg (by simp [hc])]
      go_enter Try.func11, Try.ntmps11
      go_wp2_with fail
      refine (both_any a b _).mono ?_; rintro e w' ⟨rfl, rfl⟩
      rw [h]; clear h
      go_wp2_with fail
      refine (is_ref c _).mono ?_; rintro e w' ⟨rfl, rfl⟩
      rw [Bool.eq_false_iff.2 hc]; clear hc
      go_wp2_with fail
      go_ret2
      exact ⟨ret_pr H.out, Below.refl _ _⟩
  · have H : Hid (mulDivS a b c = (0, 1)) := by show _ = _; rw [mulDivS, if_neg (fun g => h (by simp at g; simp [g]))]
    go_enter Try.func11, Try.ntmps11
    go_wp2_with fail
    refine (both_any a b _).mono ?_; rintro e w' ⟨rfl, rfl⟩
    rw [Bool.eq_false_iff.2 h]; clear h
    go_wp2_with fail
    refine (is_ref c _).mono ?_; rintro e w' ⟨rfl, rfl⟩
    go_wp2_with fail
    go_ret2
    exact ⟨ret_pr H.out, Below.refl _ _⟩

theorem years_bd {bp y : Int} (hb : 0 ≤ bp ∧ bp ≤ 100000) (hy : 0 ≤ y ∧ y ≤ 100) : 0 ≤ bp * y ∧ bp * y ≤ 10000000 := by
  refine ⟨Int.mul_nonneg hb.1 hy.1, Int.le_trans (Int.mul_le_mul_of_nonneg_right hb.2 hy.1) ?_⟩
  omega
theorem years_eq {p bp y : Int} (hp : 0 ≤ p ∧ p ≤ 1125899906842624) (hb : 0 ≤ bp ∧ bp ≤ 100000) (hy : 0 ≤ y ∧ y ≤ 100) : simpleS p bp (365 * y) = mulDivS p (bp * y) 10000 := by
  have h := years_bd hb hy
  have a1 : amt p = true := by simp [amt]; omega
  have a2 : amt (bp * y) = true := by simp [amt]; omega
  have a3 : amt 10000 = true := by decide
  have b1 : okP p = true := by simp [okP]; omega
  have b2 : okR bp = true := by simp [okR]; omega
  have b3 : okD (365 * y) = true := by simp [okD]; omega
  rw [mulDivS, simpleS, a1, a2, a3, b1, b2, b3]
  have e : p * (bp * (365 * y)) / 3650000 = p * (bp * y) / 10000 := by
    have : p * (bp * (365 * y)) = 365 * (p * (bp * y)) := by
      rw [← Int.mul_assoc bp, Int.mul_comm bp 365, Int.mul_assoc 365, ← Int.mul_assoc p, Int.mul_comm p 365, Int.mul_assoc 365]
    rw [this]; omega
  rw [e]; rfl
theorem years_one {p : Int} (hp : 0 ≤ p ∧ p ≤ 1125899906842624) : simpleS p 10000 365 = (p, 0) := by
  have b1 : okP p = true := by simp [okP]; omega
  have b2 : okR 10000 = true := by decide
  have b3 : okD 365 = true := by decide
  rw [simpleS, b1, b2, b3]
  have e : p * (10000 * 365) / 3650000 = p := by omega
  rw [e]; simp only [Bool.and_self, if_true]; exact told_yes (by simp [amt]; omega)

set_option maxHeartbeats 800000 in
theorem accrueYears_walk (p bp y : Int) (w : World) (hp : -9223372036854775808 ≤ p ∧ p ≤ 9223372036854775807) (hb : -9223372036854775808 ≤ bp ∧ bp ≤ 9223372036854775807) (hy : -9223372036854775808 ≤ y ∧ y ≤ 9223372036854775807) :
    Calls Try.prog 5 #[.int .i64 p, .int .i64 bp, .int .i64 y] w fun e w' => e = .returned (.bool true) ∧ Below w.heap.size w w' := by
  by_cases h : (0 ≤ p ∧ p ≤ 1125899906842624) ∧ (0 ≤ bp ∧ bp ≤ 100000) ∧ (0 ≤ y ∧ y ≤ 100)
  · obtain ⟨h1, h2, h3⟩ := h
    have h4 := years_bd h2 h3
    have E1 := Lib.hid (years_eq h1 h2 h3)
    have E2 := Lib.hid (years_one h1)
    go_enter Try.func5, Try.ntmps5
    go_wp2_with fail
    refine (awake_any w).mono ?_; rintro e w1 ⟨rfl, hw1⟩; obtain ⟨hc1, hf1⟩ := bcell hw1; have hz1 := hw1.size; (try simp only [World.size_alloc, World.size_setCell, World.size_drew, size_drewN, Nat.add_one_le_iff] at hz1); (try have hy1 : w.heap.size < w1.heap.size := by omega); (try have hx1 : w.heap.size + 1 < w1.heap.size := by omega); have HW1 := Lib.hid hw1; clear hw1
    go_wp2_with fail
    refine (simple_any p bp (365 * y) _).mono ?_; rintro e w2 ⟨rfl, hw2⟩; obtain ⟨hc2, hf2⟩ := bcell hw2; have hz2 := hw2.size; (try simp only [World.size_alloc, World.size_setCell, World.size_drew, size_drewN, Nat.add_one_le_iff] at hz2); (try have hy2 : w.heap.size < w2.heap.size := by omega); (try have hx2 : w.heap.size + 1 < w2.heap.size := by omega); have HW2 := Lib.hid hw2; clear hw2
    rw [E1.out]
    go_wp2_with fail
    refine (rmulDiv_any p (bp * y) 10000 _).mono ?_; rintro e w3 ⟨rfl, hw3⟩; obtain ⟨hc3, hf3⟩ := bcell hw3; have hz3 := hw3.size; (try simp only [World.size_alloc, World.size_setCell, World.size_drew, size_drewN, Nat.add_one_le_iff] at hz3); (try have hy3 : w.heap.size < w3.heap.size := by omega); (try have hx3 : w.heap.size + 1 < w3.heap.size := by omega); have HW3 := Lib.hid hw3; clear hw3
    go_wp2_with fail
    refine (simple_any p 10000 365 _).mono ?_; rintro e w4 ⟨rfl, hw4⟩; obtain ⟨hc4, hf4⟩ := bcell hw4; have hz4 := hw4.size; (try simp only [World.size_alloc, World.size_setCell, World.size_drew, size_drewN, Nat.add_one_le_iff] at hz4); (try have hy4 : w.heap.size < w4.heap.size := by omega); (try have hx4 : w.heap.size + 1 < w4.heap.size := by omega); have HW4 := Lib.hid hw4; clear hw4
    rw [E2.out]
    go_wp2_with fail
    go_ret
    exact ⟨by simp, (by repeat' (first | (with_reducible exact Below.refl _ _) | (with_reducible refine Below.alloc ?_ ?_ _) | (with_reducible refine below_drewN ?_ _) | (with_reducible refine Below.drew ?_) | (with_reducible refine Below.setCell ?_ ?_ _) | (with_reducible refine Below.trans ?_ (Below.mono HW0.out ?_)) | (with_reducible refine Below.trans ?_ (Below.mono HW1.out ?_)) | (with_reducible refine Below.trans ?_ (Below.mono HW2.out ?_)) | (with_reducible refine Below.trans ?_ (Below.mono HW3.out ?_)) | (with_reducible refine Below.trans ?_ (Below.mono HW4.out ?_)) | (with_reducible refine Below.trans ?_ (Below.mono HW5.out ?_)) | (with_reducible refine Below.trans ?_ (Below.mono HW6.out ?_)) | (with_reducible refine Below.trans ?_ (Below.mono HW7.out ?_)) | (with_reducible exact Nat.le_refl _) | omega | (simp only [World.size_alloc, World.size_setCell, World.size_drew, size_drewN]; omega) | (simp; done) | (simp; omega)))⟩
  · by_cases c1 : p < 0
    · go_enter Try.func5, Try.ntmps5
      go_wp2_with fail
      refine (awake_any w).mono ?_; rintro e w1 ⟨rfl, hw1⟩; obtain ⟨hc1, hf1⟩ := bcell hw1; have hz1 := hw1.size; (try simp only [World.size_alloc, World.size_setCell, World.size_drew, size_drewN, Nat.add_one_le_iff] at hz1); (try have hy1 : w.heap.size < w1.heap.size := by omega); (try have hx1 : w.heap.size + 1 < w1.heap.size := by omega); have HW1 := Lib.hid hw1; clear hw1
      go_wp2_with fail
      go_ret
      exact ⟨by simp, (by repeat' (first | (with_reducible exact Below.refl _ _) | (with_reducible refine Below.alloc ?_ ?_ _) | (with_reducible refine below_drewN ?_ _) | (with_reducible refine Below.drew ?_) | (with_reducible refine Below.setCell ?_ ?_ _) | (with_reducible refine Below.trans ?_ (Below.mono HW0.out ?_)) | (with_reducible refine Below.trans ?_ (Below.mono HW1.out ?_)) | (with_reducible refine Below.trans ?_ (Below.mono HW2.out ?_)) | (with_reducible refine Below.trans ?_ (Below.mono HW3.out ?_)) | (with_reducible refine Below.trans ?_ (Below.mono HW4.out ?_)) | (with_reducible refine Below.trans ?_ (Below.mono HW5.out ?_)) | (with_reducible refine Below.trans ?_ (Below.mono HW6.out ?_)) | (with_reducible refine Below.trans ?_ (Below.mono HW7.out ?_)) | (with_reducible exact Nat.le_refl _) | omega | (simp only [World.size_alloc, World.size_setCell, World.size_drew, size_drewN]; omega) | (simp; done) | (simp; omega)))⟩
    · by_cases c2 : 1125899906842624 < p
      · go_enter Try.func5, Try.ntmps5
        go_wp2_with fail
        refine (awake_any w).mono ?_; rintro e w1 ⟨rfl, hw1⟩; obtain ⟨hc1, hf1⟩ := bcell hw1; have hz1 := hw1.size; (try simp only [World.size_alloc, World.size_setCell, World.size_drew, size_drewN, Nat.add_one_le_iff] at hz1); (try have hy1 : w.heap.size < w1.heap.size := by omega); (try have hx1 : w.heap.size + 1 < w1.heap.size := by omega); have HW1 := Lib.hid hw1; clear hw1
        go_wp2_with fail
        go_ret
        exact ⟨by simp, (by repeat' (first | (with_reducible exact Below.refl _ _) | (with_reducible refine Below.alloc ?_ ?_ _) | (with_reducible refine below_drewN ?_ _) | (with_reducible refine Below.drew ?_) | (with_reducible refine Below.setCell ?_ ?_ _) | (with_reducible refine Below.trans ?_ (Below.mono HW0.out ?_)) | (with_reducible refine Below.trans ?_ (Below.mono HW1.out ?_)) | (with_reducible refine Below.trans ?_ (Below.mono HW2.out ?_)) | (with_reducible refine Below.trans ?_ (Below.mono HW3.out ?_)) | (with_reducible refine Below.trans ?_ (Below.mono HW4.out ?_)) | (with_reducible refine Below.trans ?_ (Below.mono HW5.out ?_)) | (with_reducible refine Below.trans ?_ (Below.mono HW6.out ?_)) | (with_reducible refine Below.trans ?_ (Below.mono HW7.out ?_)) | (with_reducible exact Nat.le_refl _) | omega | (simp only [World.size_alloc, World.size_setCell, World.size_drew, size_drewN]; omega) | (simp; done) | (simp; omega)))⟩
      · by_cases c3 : bp < 0
        · go_enter Try.func5, Try.ntmps5
          go_wp2_with fail
          refine (awake_any w).mono ?_; rintro e w1 ⟨rfl, hw1⟩; obtain ⟨hc1, hf1⟩ := bcell hw1; have hz1 := hw1.size; (try simp only [World.size_alloc, World.size_setCell, World.size_drew, size_drewN, Nat.add_one_le_iff] at hz1); (try have hy1 : w.heap.size < w1.heap.size := by omega); (try have hx1 : w.heap.size + 1 < w1.heap.size := by omega); have HW1 := Lib.hid hw1; clear hw1
          go_wp2_with fail
          go_ret
          exact ⟨by simp, (by repeat' (first | (with_reducible exact Below.refl _ _) | (with_reducible refine Below.alloc ?_ ?_ _) | (with_reducible refine below_drewN ?_ _) | (with_reducible refine Below.drew ?_) | (with_reducible refine Below.setCell ?_ ?_ _) | (with_reducible refine Below.trans ?_ (Below.mono HW0.out ?_)) | (with_reducible refine Below.trans ?_ (Below.mono HW1.out ?_)) | (with_reducible refine Below.trans ?_ (Below.mono HW2.out ?_)) | (with_reducible refine Below.trans ?_ (Below.mono HW3.out ?_)) | (with_reducible refine Below.trans ?_ (Below.mono HW4.out ?_)) | (with_reducible refine Below.trans ?_ (Below.mono HW5.out ?_)) | (with_reducible refine Below.trans ?_ (Below.mono HW6.out ?_)) | (with_reducible refine Below.trans ?_ (Below.mono HW7.out ?_)) | (with_reducible exact Nat.le_refl _) | omega | (simp only [World.size_alloc, World.size_setCell, World.size_drew, size_drewN]; omega) | (simp; done) | (simp; omega)))⟩
        · by_cases c4 : 100000 < bp
          · go_enter Try.func5, Try.ntmps5
            go_wp2_with fail
            refine (awake_any w).mono ?_; rintro e w1 ⟨rfl, hw1⟩; obtain ⟨hc1, hf1⟩ := bcell hw1; have hz1 := hw1.size; (try simp only [World.size_alloc, World.size_setCell, World.size_drew, size_drewN, Nat.add_one_le_iff] at hz1); (try have hy1 : w.heap.size < w1.heap.size := by omega); (try have hx1 : w.heap.size + 1 < w1.heap.size := by omega); have HW1 := Lib.hid hw1; clear hw1
            go_wp2_with fail
            go_ret
            exact ⟨by simp, (by repeat' (first | (with_reducible exact Below.refl _ _) | (with_reducible refine Below.alloc ?_ ?_ _) | (with_reducible refine below_drewN ?_ _) | (with_reducible refine Below.drew ?_) | (with_reducible refine Below.setCell ?_ ?_ _) | (with_reducible refine Below.trans ?_ (Below.mono HW0.out ?_)) | (with_reducible refine Below.trans ?_ (Below.mono HW1.out ?_)) | (with_reducible refine Below.trans ?_ (Below.mono HW2.out ?_)) | (with_reducible refine Below.trans ?_ (Below.mono HW3.out ?_)) | (with_reducible refine Below.trans ?_ (Below.mono HW4.out ?_)) | (with_reducible refine Below.trans ?_ (Below.mono HW5.out ?_)) | (with_reducible refine Below.trans ?_ (Below.mono HW6.out ?_)) | (with_reducible refine Below.trans ?_ (Below.mono HW7.out ?_)) | (with_reducible exact Nat.le_refl _) | omega | (simp only [World.size_alloc, World.size_setCell, World.size_drew, size_drewN]; omega) | (simp; done) | (simp; omega)))⟩
          · by_cases c5 : y < 0
            · go_enter Try.func5, Try.ntmps5
              go_wp2_with fail
              refine (awake_any w).mono ?_; rintro e w1 ⟨rfl, hw1⟩; obtain ⟨hc1, hf1⟩ := bcell hw1; have hz1 := hw1.size; (try simp only [World.size_alloc, World.size_setCell, World.size_drew, size_drewN, Nat.add_one_le_iff] at hz1); (try have hy1 : w.heap.size < w1.heap.size := by omega); (try have hx1 : w.heap.size + 1 < w1.heap.size := by omega); have HW1 := Lib.hid hw1; clear hw1
              go_wp2_with fail
              go_ret
              exact ⟨by simp, (by repeat' (first | (with_reducible exact Below.refl _ _) | (with_reducible refine Below.alloc ?_ ?_ _) | (with_reducible refine below_drewN ?_ _) | (with_reducible refine Below.drew ?_) | (with_reducible refine Below.setCell ?_ ?_ _) | (with_reducible refine Below.trans ?_ (Below.mono HW0.out ?_)) | (with_reducible refine Below.trans ?_ (Below.mono HW1.out ?_)) | (with_reducible refine Below.trans ?_ (Below.mono HW2.out ?_)) | (with_reducible refine Below.trans ?_ (Below.mono HW3.out ?_)) | (with_reducible refine Below.trans ?_ (Below.mono HW4.out ?_)) | (with_reducible refine Below.trans ?_ (Below.mono HW5.out ?_)) | (with_reducible refine Below.trans ?_ (Below.mono HW6.out ?_)) | (with_reducible refine Below.trans ?_ (Below.mono HW7.out ?_)) | (with_reducible exact Nat.le_refl _) | omega | (simp only [World.size_alloc, World.size_setCell, World.size_drew, size_drewN]; omega) | (simp; done) | (simp; omega)))⟩
            · have c6 : 100 < y := by omega
              clear h
              go_enter Try.func5, Try.ntmps5
              go_wp2_with fail
              refine (awake_any w).mono ?_; rintro e w1 ⟨rfl, hw1⟩; obtain ⟨hc1, hf1⟩ := bcell hw1; have hz1 := hw1.size; (try simp only [World.size_alloc, World.size_setCell, World.size_drew, size_drewN, Nat.add_one_le_iff] at hz1); (try have hy1 : w.heap.size < w1.heap.size := by omega); (try have hx1 : w.heap.size + 1 < w1.heap.size := by omega); have HW1 := Lib.hid hw1; clear hw1
              go_wp2_with fail
              go_ret
              exact ⟨by simp, (by repeat' (first | (with_reducible exact Below.refl _ _) | (with_reducible refine Below.alloc ?_ ?_ _) | (with_reducible refine below_drewN ?_ _) | (with_reducible refine Below.drew ?_) | (with_reducible refine Below.setCell ?_ ?_ _) | (with_reducible refine Below.trans ?_ (Below.mono HW0.out ?_)) | (with_reducible refine Below.trans ?_ (Below.mono HW1.out ?_)) | (with_reducible refine Below.trans ?_ (Below.mono HW2.out ?_)) | (with_reducible refine Below.trans ?_ (Below.mono HW3.out ?_)) | (with_reducible refine Below.trans ?_ (Below.mono HW4.out ?_)) | (with_reducible refine Below.trans ?_ (Below.mono HW5.out ?_)) | (with_reducible refine Below.trans ?_ (Below.mono HW6.out ?_)) | (with_reducible refine Below.trans ?_ (Below.mono HW7.out ?_)) | (with_reducible exact Nat.le_refl _) | omega | (simp only [World.size_alloc, World.size_setCell, World.size_drew, size_drewN]; omega) | (simp; done) | (simp; omega)))⟩
end Go.Proofs.Ytpfcajekbkpabaa
