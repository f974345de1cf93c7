/- Mul, both sides. -/
import Derived.Test.YtjimahagfkpacaaX
import Derived.Test.YtjimahagfkpacaaM1
namespace Go.Proofs.Ytjimahagfkpacaa
open Go.RowKit Go
set_option linter.unusedVariables false
set_option linter.unusedSimpArgs false

def mulS (a b : Int) : Int × Int := if amt a && amt b then told (a * b) else (0, 1)
theorem amt_abs2 {a : Int} (h : amt a = true) : 0 ≤ (a.natAbs : Int) ∧ (a.natAbs : Int) ≤ 18446744073709551615 := by have := amt_yes h; omega
theorem wz_mul (a b : Int) : wz (decide (a < 0) != decide (b < 0)) (a.natAbs * b.natAbs) = a * b := by
  by_cases h : a < 0 <;> by_cases g : b < 0 <;> simp [wz, h, g]
  · rw [show (a.natAbs : Int) = -a by omega, show (b.natAbs : Int) = -b by omega, Int.neg_mul_neg]
  · rw [show (a.natAbs : Int) = -a by omega, show (b.natAbs : Int) = b by omega, Int.neg_mul, Int.neg_neg]
  · rw [show (a.natAbs : Int) = a by omega, show (b.natAbs : Int) = -b by omega, Int.mul_neg, Int.neg_neg]
  · rw [show (a.natAbs : Int) = a by omega, show (b.natAbs : Int) = b by omega]
theorem mul_big {a b : Int} (ha : amt a = true) (hb : amt b = true) : 0 ≤ (a.natAbs : Int) * b.natAbs ∧ (a.natAbs : Int) * b.natAbs < big := by
  have h1 := amt_abs ha; have h2 := amt_abs hb
  have : (a.natAbs : Int) * b.natAbs ≤ 4611686018427387904 * 4611686018427387904 :=
    Int.le_trans (Int.mul_le_mul_of_nonneg_left h2 (by omega)) (Int.mul_le_mul_of_nonneg_right h1 (by omega))
  refine ⟨Int.mul_nonneg (by omega) (by omega), ?_⟩
  unfold big; omega

set_option maxHeartbeats 400000 in
theorem rmul_any (a b : Int) (w : World) : Calls Try.prog 15 #[.int .i64 a, .int .i64 b] w fun e w' => e = .returned (pr (mulS a b)) ∧ Below w.heap.size w w' := by
  by_cases h : (amt a && amt b) = true
  · have h0 : amt a = true ∧ amt b = true := by simpa using h
    have ha := amt_yes h0.1
    have hb := amt_yes h0.2
    have ha2 := amt_abs2 h0.1; have hb2 := amt_abs2 h0.2
    have hmb := mul_big h0.1 h0.2
    clear h0
    have H := Lib.hid h
    go_enter Try.func15, Try.ntmps15
    go_wp2_with fail
    refine (both_any a b _).mono ?_; rintro e w' ⟨rfl, rfl⟩
    rw [h]; clear h
    go_wp2_with fail
    refine (of_any a _ (by omega)).mono ?_; rintro e w1 ⟨rfl, hw1⟩; obtain ⟨hc1, hf1⟩ := bcell hw1; have hz1 := hw1.size; (try simp only [World.size_alloc, World.size_setCell, World.size_drew, size_drewN, Nat.add_one_le_iff] at hz1); (try have hy1 : w.heap.size < w1.heap.size := by omega); (try have hx1 : w.heap.size + 1 < w1.heap.size := by omega); have HW1 := Lib.hid hw1; clear hw1
    go_wp2_with fail
    refine (of_any b _ (by omega)).mono ?_; rintro e w2 ⟨rfl, hw2⟩; obtain ⟨hc2, hf2⟩ := bcell hw2; have hz2 := hw2.size; (try simp only [World.size_alloc, World.size_setCell, World.size_drew, size_drewN, Nat.add_one_le_iff] at hz2); (try have hy2 : w.heap.size < w2.heap.size := by omega); (try have hx2 : w.heap.size + 1 < w2.heap.size := by omega); have HW2 := Lib.hid hw2; clear hw2
    go_wp2_with fail
    refine (wmul_any _ _ _ _ _ ha2 hb2).mono ?_; rintro e w3 ⟨rfl, hw3⟩; obtain ⟨hc3, hf3⟩ := bcell hw3; have hz3 := hw3.size; (try simp only [World.size_alloc, World.size_setCell, World.size_drew, size_drewN, Nat.add_one_le_iff] at hz3); (try have hy3 : w.heap.size < w3.heap.size := by omega); (try have hx3 : w.heap.size + 1 < w3.heap.size := by omega); have HW3 := Lib.hid hw3; clear hw3
    go_wp2_with fail
    refine (wtold_any _ _ _ hmb.1 hmb.2).mono ?_; rintro e w4 ⟨rfl, hw4⟩; obtain ⟨hc4, hf4⟩ := bcell hw4; have hz4 := hw4.size; (try simp only [World.size_alloc, World.size_setCell, World.size_drew, size_drewN, Nat.add_one_le_iff] at hz4); (try have hy4 : w.heap.size < w4.heap.size := by omega); (try have hx4 : w.heap.size + 1 < w4.heap.size := by omega); have HW4 := Lib.hid hw4; clear hw4
    go_wp2_with fail
    go_ret2
    refine ⟨ret_pr ?_, (by repeat' (first | (with_reducible exact Below.refl _ _) | (with_reducible refine Below.alloc ?_ ?_ _) | (with_reducible refine below_drewN ?_ _) | (with_reducible refine Below.drew ?_) | (with_reducible refine Below.setCell ?_ ?_ _) | (with_reducible refine Below.trans ?_ (Below.mono HW0.out ?_)) | (with_reducible refine Below.trans ?_ (Below.mono HW1.out ?_)) | (with_reducible refine Below.trans ?_ (Below.mono HW2.out ?_)) | (with_reducible refine Below.trans ?_ (Below.mono HW3.out ?_)) | (with_reducible refine Below.trans ?_ (Below.mono HW4.out ?_)) | (with_reducible refine Below.trans ?_ (Below.mono HW5.out ?_)) | (with_reducible refine Below.trans ?_ (Below.mono HW6.out ?_)) | (with_reducible refine Below.trans ?_ (Below.mono HW7.out ?_)) | (with_reducible exact Nat.le_refl _) | omega | (simp only [World.size_alloc, World.size_setCell, World.size_drew, size_drewN]; omega) | (simp; done) | (simp; omega)))⟩
    rw [wz_mul, mulS, if_pos H.out]
  · have H : Hid (mulS a b = (0, 1)) := by show _ = _; rw [mulS, if_neg h]
    go_enter Try.func15, Try.ntmps15
    go_wp2_with fail
    refine (both_any a b _).mono ?_; rintro e w' ⟨rfl, rfl⟩
    rw [Bool.eq_false_iff.2 h]; clear h
    go_wp2_with fail
    go_ret2
    exact ⟨ret_pr H.out, (by repeat' (first | (with_reducible exact Below.refl _ _) | (with_reducible refine Below.alloc ?_ ?_ _) | (with_reducible refine below_drewN ?_ _) | (with_reducible refine Below.drew ?_) | (with_reducible refine Below.setCell ?_ ?_ _) | (with_reducible refine Below.trans ?_ (Below.mono HW0.out ?_)) | (with_reducible refine Below.trans ?_ (Below.mono HW1.out ?_)) | (with_reducible refine Below.trans ?_ (Below.mono HW2.out ?_)) | (with_reducible refine Below.trans ?_ (Below.mono HW3.out ?_)) | (with_reducible refine Below.trans ?_ (Below.mono HW4.out ?_)) | (with_reducible refine Below.trans ?_ (Below.mono HW5.out ?_)) | (with_reducible refine Below.trans ?_ (Below.mono HW6.out ?_)) | (with_reducible refine Below.trans ?_ (Below.mono HW7.out ?_)) | (with_reducible exact Nat.le_refl _) | omega | (simp only [World.size_alloc, World.size_setCell, World.size_drew, size_drewN]; omega) | (simp; done) | (simp; omega)))⟩

theorem mul_fine (a b : Int) : fine a b 1 := by unfold fine; omega
theorem mulDiv_one (a b : Int) : mulDivS a b 1 = mulS a b := by
  unfold mulDivS mulS
  have : amt 1 = true := by decide
  rw [this, Int.ediv_one]; simp
theorem mul_any (a b : Int) (w : World) : Calls Try.prog 12 #[.int .i64 a, .int .i64 b] w fun e w' => e = .returned (pr (mulS a b)) ∧ Below w.heap.size w w' := by
  go_enter Try.func12, Try.ntmps12
  go_wp2_with fail
  refine (mulDiv_any a b 1 w (mul_fine a b)).mono ?_; rintro e w1 ⟨rfl, hw1⟩; obtain ⟨hc1, hf1⟩ := bcell hw1; have hz1 := hw1.size; (try simp only [World.size_alloc, World.size_setCell, World.size_drew, size_drewN, Nat.add_one_le_iff] at hz1); (try have hy1 : w.heap.size < w1.heap.size := by omega); (try have hx1 : w.heap.size + 1 < w1.heap.size := by omega); have HW1 := Lib.hid hw1; clear hw1
  go_wp2_with fail
  go_ret2
  exact ⟨ret_pr (by rw [mulDiv_one]), (by repeat' (first | (with_reducible exact Below.refl _ _) | (with_reducible refine Below.alloc ?_ ?_ _) | (with_reducible refine below_drewN ?_ _) | (with_reducible refine Below.drew ?_) | (with_reducible refine Below.setCell ?_ ?_ _) | (with_reducible refine Below.trans ?_ (Below.mono HW0.out ?_)) | (with_reducible refine Below.trans ?_ (Below.mono HW1.out ?_)) | (with_reducible refine Below.trans ?_ (Below.mono HW2.out ?_)) | (with_reducible refine Below.trans ?_ (Below.mono HW3.out ?_)) | (with_reducible refine Below.trans ?_ (Below.mono HW4.out ?_)) | (with_reducible refine Below.trans ?_ (Below.mono HW5.out ?_)) | (with_reducible refine Below.trans ?_ (Below.mono HW6.out ?_)) | (with_reducible refine Below.trans ?_ (Below.mono HW7.out ?_)) | (with_reducible exact Nat.le_refl _) | omega | (simp only [World.size_alloc, World.size_setCell, World.size_drew, size_drewN]; omega) | (simp; done) | (simp; omega)))⟩
end Go.Proofs.Ytjimahagfkpacaa
