/- Mul, both sides. -/
import Derived.Test.YtpfcajekbkpabaaX
import Derived.Test.YtpfcajekbkpabaaM1
namespace Go.Proofs.Ytpfcajekbkpabaa
open Go.RowKit Go
set_option linter.unusedVariables false
set_option linter.unusedSimpArgs false

def mulS (a b : Int) : Int × Int := if amt a && amt b then told (a * b) else (0, 1)
theorem amt_abs2 {a : Int} (h : amt a = true) : 0 ≤ (a.natAbs : Int) ∧ (a.natAbs : Int) ≤ 18446744073709551615 := by have := amt_yes h; omega
theorem wz_mul (a b : Int) : wz (decide (a < 0) != decide (b < 0)) (a.natAbs * b.natAbs) = a * b := by
  by_cases h : a < 0 <;> by_cases g : b < 0 <;> simp [wz, h, g]
  · rw [show (a.natAbs : Int) = -a by omega, show (b.natAbs : Int) = -b by omega, Int.neg_mul_neg]
  · rw [show (a.natAbs : Int) = -a by omega, show (b.natAbs : Int) = b by omega, Int.neg_mul, Int.neg_neg]
  · rw [show (a.natAbs : Int) = a by omega, show (b.natAbs : Int) = -b by omega, Int.mul_neg, Int.neg_neg]
  · rw [show (a.natAbs : Int) = a by omega, show (b.natAbs : Int) = b by omega]
theorem mul_big {a b : Int} (ha : amt a = true) (hb : amt b = true) : 0 ≤ (a.natAbs : Int) * b.natAbs ∧ (a.natAbs : Int) * b.natAbs < big := by
  have h1 := amt_abs ha; have h2 := amt_abs hb
  have : (a.natAbs : Int) * b.natAbs ≤ 4611686018427387904 * 4611686018427387904 :=
    Int.le_trans (Int.mul_le_mul_of_nonneg_left h2 (by omega)) (Int.mul_le_mul_of_nonneg_right h1 (by omega))
  refine ⟨Int.mul_nonneg (by omega) (by omega), ?_⟩
  unfold big; omega

theorem mul_fine (a b : Int) : fine a b 1 := by unfold fine; omega
theorem mulDiv_one (a b : Int) : mulDivS a b 1 = mulS a b := by
  unfold mulDivS mulS
  have : amt 1 = true := by decide
  rw [this, Int.ediv_one]; simp
end Go.Proofs.Ytpfcajekbkpabaa
