/- num's size, divided, MulDiv. -/
import Derived.Test.YtilcgpaefkapaaaD
import Derived.Test.YtilcgpaefkapaaaR3
namespace Go.Proofs.Ytilcgpaefkapaaa
open Go.RowKit Go
set_option linter.unusedVariables false
set_option linter.unusedSimpArgs false

theorem div64_zero (lo y : Int) (w : World) (h1 : 1 ≤ y) (hl0 : 0 ≤ lo) (hl1 : lo ≤ 18446744073709551615) (hy : y ≤ 4611686018427387904) :
    Calls Try.prog 59 #[.int .u64 0, .int .u64 lo, .int .u64 y] w fun e w' => e = .returned (.tuple #[.int .u64 (lo / y), .int .u64 (lo % y)]) ∧ Below w.heap.size w w' := by
  have hy0 : (y == 0) = false := by simp; omega
  go_enter Try.func59, Try.ntmps59
  go_wp2_with fail
  go_quiet (fail)
  go_wp2_with fail
  go_ret2
  exact ⟨rfl, (by repeat' (first | (with_reducible exact Below.refl _ _) | (with_reducible refine Below.alloc ?_ ?_ _) | (with_reducible refine below_drewN ?_ _) | (with_reducible refine Below.drew ?_) | (with_reducible refine Below.setCell ?_ ?_ _) | (with_reducible refine Below.trans ?_ (Below.mono HW0.out ?_)) | (with_reducible refine Below.trans ?_ (Below.mono HW1.out ?_)) | (with_reducible refine Below.trans ?_ (Below.mono HW2.out ?_)) | (with_reducible refine Below.trans ?_ (Below.mono HW3.out ?_)) | (with_reducible refine Below.trans ?_ (Below.mono HW4.out ?_)) | (with_reducible refine Below.trans ?_ (Below.mono HW5.out ?_)) | (with_reducible refine Below.trans ?_ (Below.mono HW6.out ?_)) | (with_reducible refine Below.trans ?_ (Below.mono HW7.out ?_)) | (with_reducible exact Nat.le_refl _) | omega | (simp only [World.size_alloc, World.size_setCell, World.size_drew, size_drewN]; omega) | (simp; done) | (simp; omega)))⟩

theorem div64_ex (hi lo c : Int) (h0 : 0 ≤ hi) (h1 : hi < c) (hl0 : 0 ≤ lo) (hl1 : lo ≤ 18446744073709551615) (hc : c ≤ 4611686018427387904) :
    ∃ q r : Int, 0 ≤ q ∧ q ≤ 18446744073709551615 ∧ 0 ≤ r ∧ r < c ∧ Hid (hi * 18446744073709551616 + lo = q * c + r) ∧
      ∀ w, Calls Try.prog 59 #[.int .u64 hi, .int .u64 lo, .int .u64 c] w fun e w' => e = .returned (.tuple #[.int .u64 q, .int .u64 r]) ∧ Below w.heap.size w w' := by
  refine ⟨(hi * 18446744073709551616 + lo) / c, (hi * 18446744073709551616 + lo) % c, Int.ediv_nonneg (by omega) (by omega), ?_, Int.emod_nonneg _ (by omega), Int.emod_lt_of_pos _ (by omega), ?_, fun w => ?_⟩
  · refine Int.le_of_lt_add_one ((Int.ediv_lt_iff_lt_mul (by omega)).2 ?_)
    have : (18446744073709551615 + 1 : Int) * c = c * 18446744073709551616 := Int.mul_comm _ _
    omega
  · show _ = _
    have := Int.mul_ediv_add_emod (hi * 18446744073709551616 + lo) c
    rw [Int.mul_comm c] at this; exact this.symm
  · by_cases h : hi = 0
    · subst h
      have e : (0 * 18446744073709551616 + lo) = lo := by omega
      rw [e]; exact div64_zero lo c w (by omega) hl0 hl1 hc
    · exact div64_any hi lo c w (by omega) h1 hl0 hl1 hc

theorem size_any (a : Int) (w : World) (ha : -4611686018427387904 ≤ a ∧ a ≤ 4611686018427387904) :
    Calls Try.prog 57 #[.int .i64 a] w fun e w' => e = .returned (.tuple #[.int .u64 (if a < 0 then -a else a), .bool (decide (a < 0))]) ∧ w = w' := by
  by_cases h : a < 0
  · rw [if_pos h, decide_eq_true h]
    have e : IntKind.u64.wrap (-IntKind.u64.wrap a) = -a := by
      have wr : ∀ z : Int, IntKind.u64.wrap z = z % 18446744073709551616 := fun z => by simp [IntKind.wrap, IntKind.bits, IntKind.signed]
      rw [wr, wr]; omega
    go_enter Try.func57, Try.ntmps57
    go_wp2_with fail
    go_ret2
    exact ⟨by first | rfl | (rw [e]), rfl⟩
  · rw [if_neg h, decide_eq_false h]
    go_enter Try.func57, Try.ntmps57
    go_wp2_with fail
    go_ret2
    exact ⟨rfl, rfl⟩

theorem mul64_ex (x y : Int) (hx : 0 ≤ x ∧ x ≤ 4611686018427387904) (hy : 0 ≤ y ∧ y ≤ 4611686018427387904) :
    ∃ hi lo : Int, 0 ≤ hi ∧ hi ≤ 4611686018427387904 ∧ 0 ≤ lo ∧ lo ≤ 18446744073709551615 ∧ Hid (x * y = hi * 18446744073709551616 + lo) ∧
      ∀ w, Calls Try.prog 58 #[.int .u64 x, .int .u64 y] w fun e w' => e = .returned (.tuple #[.int .u64 hi, .int .u64 lo]) ∧ w = w' := by
  obtain ⟨X, rfl⟩ := Int.eq_ofNat_of_zero_le hx.1
  obtain ⟨Y, rfl⟩ := Int.eq_ofNat_of_zero_le hy.1
  have hb : X * Y ≤ 4611686018427387904 * 4611686018427387904 := Nat.mul_le_mul (by omega) (by omega)
  have e : (X : Int) * Y = ((X * Y : Nat) : Int) := by simp
  refine ⟨_, _, ?_, ?_, ?_, ?_, ?_, fun w => (Try.bits_Mul64 X Y (by omega) (by omega) w).mono fun _ _ h => ⟨h.1, h.2.symm⟩⟩
  · omega
  · omega
  · omega
  · omega
  · show _ = _; rw [e]; omega

def divS (a b c : Int) : Int × Int × Int := if amt (a * b / c) then (a * b / c, a * b % c, 0) else (0, 0, 2)
@[reducible] def tr (p : Int × Int × Int) : Value := .tuple #[.int .i64 p.1, .int .i64 p.2.1, .int .i64 p.2.2]
theorem ret_tr {a b c : Int} {p : Int × Int × Int} (h : p = (a, b, c)) : Ending.returned (.tuple #[.int .i64 a, .int .i64 b, .int .i64 c]) = .returned (tr p) := by rw [h]

/-- A product's floor quotient out of the sizes' one. -/
theorem div_pos_ {p q r c : Int} (h : p = q * c + r) (h0 : 0 ≤ r) (h1 : r < c) : p / c = q ∧ p % c = r := by
  have hc : 0 < c := by omega
  have a := (Int.le_ediv_iff_mul_le hc).2 (show q * c ≤ p by omega)
  have b := (Int.ediv_lt_iff_lt_mul (a := p) (b := q + 1) hc).2 (by rw [Int.add_mul]; omega)
  have e : p / c = q := by omega
  refine ⟨e, ?_⟩
  have := Int.mul_ediv_add_emod p c
  rw [e, Int.mul_comm] at this; omega
theorem div_neg_zero {p q c : Int} (h : -p = q * c) (hc : 0 < c) : p / c = -q ∧ p % c = 0 :=
  div_pos_ (by rw [Int.neg_mul]; omega) (by omega) hc
theorem div_neg_rest {p q r c : Int} (h : -p = q * c + r) (h0 : 0 < r) (h1 : r < c) : p / c = -(q + 1) ∧ p % c = c - r :=
  div_pos_ (by rw [Int.neg_mul, Int.add_mul]; omega) (by omega) (by omega)
theorem div_far {p c hi lo : Int} (hc : 1 ≤ c) (h : p = hi * 18446744073709551616 + lo ∨ -p = hi * 18446744073709551616 + lo) (h0 : 0 ≤ lo) (hi1 : c ≤ hi) : ¬ amt (p / c) = true := by
  rcases h with h | h
  · have a := (Int.le_ediv_iff_mul_le (a := 18446744073709551616) (b := p) (show 0 < c by omega)).2 (by rw [Int.mul_comm]; omega)
    simp [amt]; omega
  · have a := (Int.ediv_lt_iff_lt_mul (a := p) (b := -4611686018427387904) (show 0 < c by omega)).2 (by
      have : (-4611686018427387904 : Int) * c = -(c * 4611686018427387904) := by rw [Int.mul_comm]; omega
      omega)
    simp [amt]; omega
end Go.Proofs.Ytilcgpaefkapaaa
