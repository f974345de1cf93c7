/- num's size, divided, MulDiv. -/
import Derived.Test.YtbjjgnaojoaoiaaGreatK6
import Derived.Test.YtbjjgnaojoaoiaaGreatK7
import Derived.Test.YtbjjgnaojoaoiaaGreatK10
import Derived.Test.YtbjjgnaojoaoiaaGreatK12
import Derived.Test.YtbjjgnaojoaoiaaGreatK13
import Derived.Laws.Rows
namespace Go.Proofs.YtbjjgnaojoaoiaaGreat
open Go.RowKit Go
set_option linter.unusedVariables false
set_option linter.unusedSimpArgs false

theorem div64_zero (lo y : Int) (w : World) (h1 : 1 ≤ y) (hl0 : 0 ≤ lo) (hl1 : lo ≤ 18446744073709551615) (hy : y ≤ 4611686018427387904) :
    Calls Tryz.prog 178 #[.int .u64 0, .int .u64 lo, .int .u64 y] w fun e w' => e = .returned (.tuple #[.int .u64 (lo / y), .int .u64 (lo % y)]) ∧ Below w.heap.size w w' := by
  have hy0 : (y == 0) = false := by simp; omega
  go_enter Tryz.func178, Tryz.ntmps178
  go_wp2_with fail
  go_quiet (fail)
  go_wp2_with fail
  go_ret2
  exact ⟨rfl, (by repeat' (first | (with_reducible exact Below.refl _ _) | (with_reducible refine Below.alloc ?_ ?_ _) | (with_reducible refine below_drewN ?_ _) | (with_reducible refine Below.drew ?_) | (with_reducible refine Below.setCell ?_ ?_ _) | (with_reducible refine Below.trans ?_ (Below.mono HW0.out ?_)) | (with_reducible refine Below.trans ?_ (Below.mono HW1.out ?_)) | (with_reducible refine Below.trans ?_ (Below.mono HW2.out ?_)) | (with_reducible refine Below.trans ?_ (Below.mono HW3.out ?_)) | (with_reducible refine Below.trans ?_ (Below.mono HW4.out ?_)) | (with_reducible refine Below.trans ?_ (Below.mono HW5.out ?_)) | (with_reducible refine Below.trans ?_ (Below.mono HW6.out ?_)) | (with_reducible refine Below.trans ?_ (Below.mono HW7.out ?_)) | (with_reducible exact Nat.le_refl _) | omega | (simp only [World.size_alloc, World.size_setCell, World.size_drew, size_drewN]; omega) | (simp; done) | (simp; omega)))⟩

theorem div64_ex (hi lo c : Int) (h0 : 0 ≤ hi) (h1 : hi < c) (hl0 : 0 ≤ lo) (hl1 : lo ≤ 18446744073709551615) (hc : c ≤ 4611686018427387904) :
    ∃ q r : Int, 0 ≤ q ∧ q ≤ 18446744073709551615 ∧ 0 ≤ r ∧ r < c ∧ Hid (hi * 18446744073709551616 + lo = q * c + r) ∧
      ∀ w, Calls Tryz.prog 178 #[.int .u64 hi, .int .u64 lo, .int .u64 c] w fun e w' => e = .returned (.tuple #[.int .u64 q, .int .u64 r]) ∧ Below w.heap.size w w' := by
  refine ⟨(hi * 18446744073709551616 + lo) / c, (hi * 18446744073709551616 + lo) % c, Int.ediv_nonneg (by omega) (by omega), ?_, Int.emod_nonneg _ (by omega), Int.emod_lt_of_pos _ (by omega), ?_, fun w => ?_⟩
  · refine Int.le_of_lt_add_one ((Int.ediv_lt_iff_lt_mul (by omega)).2 ?_)
    have : (18446744073709551615 + 1 : Int) * c = c * 18446744073709551616 := Int.mul_comm _ _
    omega
  · show _ = _
    have := Int.mul_ediv_add_emod (hi * 18446744073709551616 + lo) c
    rw [Int.mul_comm c] at this; exact this.symm
  · by_cases h : hi = 0
    · subst h
      have e : (0 * 18446744073709551616 + lo) = lo := by omega
      rw [e]; exact div64_zero lo c w (by omega) hl0 hl1 hc
    · exact div64_any hi lo c w (by omega) h1 hl0 hl1 hc

theorem size_any (a : Int) (w : World) (ha : -4611686018427387904 ≤ a ∧ a ≤ 4611686018427387904) :
    Calls Tryz.prog 176 #[.int .i64 a] w fun e w' => e = .returned (.tuple #[.int .u64 (if a < 0 then -a else a), .bool (decide (a < 0))]) ∧ w = w' := by
  by_cases h : a < 0
  · rw [if_pos h, decide_eq_true h]
    have e : IntKind.u64.wrap (-IntKind.u64.wrap a) = -a := by
      have wr : ∀ z : Int, IntKind.u64.wrap z = z % 18446744073709551616 := fun z => by simp [IntKind.wrap, IntKind.bits, IntKind.signed]
      rw [wr, wr]; omega
    go_enter Tryz.func176, Tryz.ntmps176
    go_wp2_with fail
    go_ret2
    exact ⟨by first | rfl | (rw [e]), rfl⟩
  · rw [if_neg h, decide_eq_false h]
    go_enter Tryz.func176, Tryz.ntmps176
    go_wp2_with fail
    go_ret2
    exact ⟨rfl, rfl⟩

theorem mul64_ex (x y : Int) (hx : 0 ≤ x ∧ x ≤ 4611686018427387904) (hy : 0 ≤ y ∧ y ≤ 4611686018427387904) :
    ∃ hi lo : Int, 0 ≤ hi ∧ hi ≤ 4611686018427387904 ∧ 0 ≤ lo ∧ lo ≤ 18446744073709551615 ∧ Hid (x * y = hi * 18446744073709551616 + lo) ∧
      ∀ w, Calls Tryz.prog 177 #[.int .u64 x, .int .u64 y] w fun e w' => e = .returned (.tuple #[.int .u64 hi, .int .u64 lo]) ∧ w = w' := by
  obtain ⟨X, rfl⟩ := Int.eq_ofNat_of_zero_le hx.1
  obtain ⟨Y, rfl⟩ := Int.eq_ofNat_of_zero_le hy.1
  have hb : X * Y ≤ 4611686018427387904 * 4611686018427387904 := Nat.mul_le_mul (by omega) (by omega)
  have e : (X : Int) * Y = ((X * Y : Nat) : Int) := by simp
  refine ⟨_, _, ?_, ?_, ?_, ?_, ?_, fun w => (Tryz.bits_Mul64 X Y (by omega) (by omega) w).mono fun _ _ h => ⟨h.1, h.2.symm⟩⟩
  · omega
  · omega
  · omega
  · omega
  · show _ = _; rw [e]; omega

def divS (a b c : Int) : Int × Int × Int := if amt (a * b / c) then (a * b / c, a * b % c, 0) else (0, 0, 2)
@[reducible] def tr (p : Int × Int × Int) : Value := .tuple #[.int .i64 p.1, .int .i64 p.2.1, .int .i64 p.2.2]
theorem ret_tr {a b c : Int} {p : Int × Int × Int} (h : p = (a, b, c)) : Ending.returned (.tuple #[.int .i64 a, .int .i64 b, .int .i64 c]) = .returned (tr p) := by rw [h]

/-- A product's floor quotient out of the sizes' one. -/
theorem div_pos_ {p q r c : Int} (h : p = q * c + r) (h0 : 0 ≤ r) (h1 : r < c) : p / c = q ∧ p % c = r := by
  have hc : 0 < c := by omega
  have a := (Int.le_ediv_iff_mul_le hc).2 (show q * c ≤ p by omega)
  have b := (Int.ediv_lt_iff_lt_mul (a := p) (b := q + 1) hc).2 (by rw [Int.add_mul]; omega)
  have e : p / c = q := by omega
  refine ⟨e, ?_⟩
  have := Int.mul_ediv_add_emod p c
  rw [e, Int.mul_comm] at this; omega
theorem div_neg_zero {p q c : Int} (h : -p = q * c) (hc : 0 < c) : p / c = -q ∧ p % c = 0 :=
  div_pos_ (by rw [Int.neg_mul]; omega) (by omega) hc
theorem div_neg_rest {p q r c : Int} (h : -p = q * c + r) (h0 : 0 < r) (h1 : r < c) : p / c = -(q + 1) ∧ p % c = c - r :=
  div_pos_ (by rw [Int.neg_mul, Int.add_mul]; omega) (by omega) (by omega)
theorem div_far {p c hi lo : Int} (hc : 1 ≤ c) (h : p = hi * 18446744073709551616 + lo ∨ -p = hi * 18446744073709551616 + lo) (h0 : 0 ≤ lo) (hi1 : c ≤ hi) : ¬ amt (p / c) = true := by
  rcases h with h | h
  · have a := (Int.le_ediv_iff_mul_le (a := 18446744073709551616) (b := p) (show 0 < c by omega)).2 (by rw [Int.mul_comm]; omega)
    simp [amt]; omega
  · have a := (Int.ediv_lt_iff_lt_mul (a := p) (b := -4611686018427387904) (show 0 < c by omega)).2 (by
      have : (-4611686018427387904 : Int) * c = -(c * 4611686018427387904) := by rw [Int.mul_comm]; omega
      omega)
    simp [amt]; omega
end Go.Proofs.YtbjjgnaojoaoiaaGreat
/- num's divided, MulDiv. -/
namespace Go.Proofs.YtbjjgnaojoaoiaaGreat
open Go.RowKit Go
set_option linter.unusedVariables false
set_option linter.unusedSimpArgs false

theorem sizes_ex (a b : Int) (ha : -4611686018427387904 ≤ a ∧ a ≤ 4611686018427387904) (hb : -4611686018427387904 ≤ b ∧ b ≤ 4611686018427387904) :
    ∃ (x y : Int) (n m : Bool), (0 ≤ x ∧ x ≤ 4611686018427387904) ∧ (0 ≤ y ∧ y ≤ 4611686018427387904) ∧
      Hid ((∀ w, Calls Tryz.prog 176 #[.int .i64 a] w fun e w' => e = .returned (.tuple #[.int .u64 x, .bool n]) ∧ w = w') ∧
      (∀ w, Calls Tryz.prog 176 #[.int .i64 b] w fun e w' => e = .returned (.tuple #[.int .u64 y, .bool m]) ∧ w = w') ∧
      (((n != m) = true ∧ -(a * b) = x * y) ∨ ((n != m) = false ∧ a * b = x * y))) := by
  refine ⟨if a < 0 then -a else a, if b < 0 then -b else b, decide (a < 0), decide (b < 0), by split <;> omega, by split <;> omega, fun w => size_any a w ha, fun w => size_any b w hb, ?_⟩
  by_cases h : a < 0 <;> by_cases g : b < 0 <;> simp [h, g, Int.neg_mul, Int.mul_neg]

/-- Where the quotient's size would go round when it is rounded away from 0, nothing is said. -/
def fine (a b c : Int) : Prop := 0 ≤ a * b ∨ -(a * b) ≤ c * 18446744073709551615 ∨ c * 18446744073709551616 ≤ -(a * b)

set_option maxHeartbeats 800000 in
set_option maxRecDepth 100000 in
theorem divided_any (a b c : Int) (w : World) (ha : -4611686018427387904 ≤ a ∧ a ≤ 4611686018427387904) (hb : -4611686018427387904 ≤ b ∧ b ≤ 4611686018427387904) (hc0 : 1 ≤ c) (hc1 : c ≤ 4611686018427387904) (hf : fine a b c) :
    Calls Tryz.prog 141 #[.int .i64 a, .int .i64 b, .int .i64 c] w fun e w' => e = .returned (tr (divS a b c)) ∧ Below w.heap.size w w' := by
  obtain ⟨x, y, n, m, hx, hy, HH⟩ := sizes_ex a b ha hb
  obtain ⟨hi, lo, hh0, hh1, hl0, hl1, HP, hmul⟩ := mul64_ex x y hx hy
  have HF := Lib.hid hf; clear hf
  have HM := Lib.hid hmul; clear hmul
  by_cases hci : c ≤ hi
  · have H : Hid (divS a b c = (0, 0, 2)) := by
      show _ = _
      rw [divS, if_neg (div_far hc0 (hi := hi) (lo := lo) ?_ hl0 hci)]
      have := HP.out
      rcases HH.out.2.2 with ⟨_, h⟩ | ⟨_, h⟩ <;> omega
    go_enter Tryz.func141, Tryz.ntmps141
    go_wp2_with fail
    refine (HH.out.1 _).mono ?_; rintro e w1 ⟨rfl, rfl⟩
    go_wp2_with fail
    refine (HH.out.2.1 _).mono ?_; rintro e w1 ⟨rfl, rfl⟩
    go_wp2_with fail
    refine (HM.out _).mono ?_; rintro e w1 ⟨rfl, rfl⟩
    go_wp2_with fail
    go_ret3
    exact ⟨ret_tr H.out, Below.refl _ _⟩
  · obtain ⟨q, r, hq0, hq1, hr0, hr1, HQ, hdiv⟩ := div64_ex hi lo c hh0 (by omega) hl0 hl1 hc1
    have HD := Lib.hid hdiv; clear hdiv
    rcases HH.out.2.2 with ⟨hs, hp⟩ | ⟨hs, hp⟩
    · have hnp : -(a * b) = q * c + r := by have h1 := HQ.out; have h2 := HP.out; omega
      by_cases hrz : r = 0
      · subst hrz
        obtain ⟨e1, e2⟩ := div_neg_zero (show -(a * b) = q * c by omega) (show 0 < c by omega)
        by_cases hbig : 4611686018427387904 < q
        · have H : Hid (divS a b c = (0, 0, 2)) := by
            show _ = _; rw [divS, if_neg]; rw [e1]; simp [amt]; omega
          cases n <;> cases m <;> (try (exact absurd hs (by decide)))
          all_goals
            go_enter Tryz.func141, Tryz.ntmps141
            go_wp2_with fail
            refine (HH.out.1 _).mono ?_; rintro e w1 ⟨rfl, rfl⟩
            go_wp2_with fail
            refine (HH.out.2.1 _).mono ?_; rintro e w1 ⟨rfl, rfl⟩
            go_wp2_with fail
            refine (HM.out _).mono ?_; rintro e w1 ⟨rfl, rfl⟩
            clear hnp hp e1 e2 hs
            go_wp2_with fail
            refine (HD.out _).mono ?_; rintro e w1 ⟨rfl, hw1⟩; obtain ⟨hc1, hf1⟩ := bcell hw1; have hz1 := hw1.size; (try simp only [World.size_alloc, World.size_setCell, World.size_drew, size_drewN, Nat.add_one_le_iff] at hz1); (try have hy1 : w.heap.size < w1.heap.size := by omega); (try have hx1 : w.heap.size + 1 < w1.heap.size := by omega); have HW1 := Lib.hid hw1; clear hw1
            go_wp2_with fail
            go_ret3
            exact ⟨ret_tr H.out, (by repeat' (first | (with_reducible exact Below.refl _ _) | (with_reducible refine Below.alloc ?_ ?_ _) | (with_reducible refine below_drewN ?_ _) | (with_reducible refine Below.drew ?_) | (with_reducible refine Below.setCell ?_ ?_ _) | (with_reducible refine Below.trans ?_ (Below.mono HW0.out ?_)) | (with_reducible refine Below.trans ?_ (Below.mono HW1.out ?_)) | (with_reducible refine Below.trans ?_ (Below.mono HW2.out ?_)) | (with_reducible refine Below.trans ?_ (Below.mono HW3.out ?_)) | (with_reducible refine Below.trans ?_ (Below.mono HW4.out ?_)) | (with_reducible refine Below.trans ?_ (Below.mono HW5.out ?_)) | (with_reducible refine Below.trans ?_ (Below.mono HW6.out ?_)) | (with_reducible refine Below.trans ?_ (Below.mono HW7.out ?_)) | (with_reducible exact Nat.le_refl _) | omega | (simp only [World.size_alloc, World.size_setCell, World.size_drew, size_drewN]; omega) | (simp; done) | (simp; omega)))⟩
        · have H : Hid (divS a b c = (-q, 0, 0)) := by
            show _ = _; rw [divS, if_pos (by rw [e1]; simp [amt]; omega), e1, e2]
          cases n <;> cases m <;> (try (exact absurd hs (by decide)))
          all_goals
            go_enter Tryz.func141, Tryz.ntmps141
            go_wp2_with fail
            refine (HH.out.1 _).mono ?_; rintro e w1 ⟨rfl, rfl⟩
            go_wp2_with fail
            refine (HH.out.2.1 _).mono ?_; rintro e w1 ⟨rfl, rfl⟩
            go_wp2_with fail
            refine (HM.out _).mono ?_; rintro e w1 ⟨rfl, rfl⟩
            clear hnp hp e1 e2 hs
            go_wp2_with fail
            refine (HD.out _).mono ?_; rintro e w1 ⟨rfl, hw1⟩; obtain ⟨hc1, hf1⟩ := bcell hw1; have hz1 := hw1.size; (try simp only [World.size_alloc, World.size_setCell, World.size_drew, size_drewN, Nat.add_one_le_iff] at hz1); (try have hy1 : w.heap.size < w1.heap.size := by omega); (try have hx1 : w.heap.size + 1 < w1.heap.size := by omega); have HW1 := Lib.hid hw1; clear hw1
            go_wp2_with fail
            go_ret3
            exact ⟨ret_tr H.out, (by repeat' (first | (with_reducible exact Below.refl _ _) | (with_reducible refine Below.alloc ?_ ?_ _) | (with_reducible refine below_drewN ?_ _) | (with_reducible refine Below.drew ?_) | (with_reducible refine Below.setCell ?_ ?_ _) | (with_reducible refine Below.trans ?_ (Below.mono HW0.out ?_)) | (with_reducible refine Below.trans ?_ (Below.mono HW1.out ?_)) | (with_reducible refine Below.trans ?_ (Below.mono HW2.out ?_)) | (with_reducible refine Below.trans ?_ (Below.mono HW3.out ?_)) | (with_reducible refine Below.trans ?_ (Below.mono HW4.out ?_)) | (with_reducible refine Below.trans ?_ (Below.mono HW5.out ?_)) | (with_reducible refine Below.trans ?_ (Below.mono HW6.out ?_)) | (with_reducible refine Below.trans ?_ (Below.mono HW7.out ?_)) | (with_reducible exact Nat.le_refl _) | omega | (simp only [World.size_alloc, World.size_setCell, World.size_drew, size_drewN]; omega) | (simp; done) | (simp; omega)))⟩
      · obtain ⟨e1, e2⟩ := div_neg_rest hnp (show 0 < r by omega) hr1
        have hqf : q ≤ 18446744073709551614 := by
          have hf := HF.out
          unfold fine at hf
          rcases Int.lt_or_le 18446744073709551614 q with h | h
          · have hq : q = 18446744073709551615 := by omega
            subst hq
            have : (18446744073709551615 : Int) * c = c * 18446744073709551615 := Int.mul_comm _ _
            omega
          · exact h
        have hr2 : 0 < r := by omega
        by_cases hbig : 4611686018427387904 < q + 1
        · have H : Hid (divS a b c = (0, 0, 2)) := by
            show _ = _; rw [divS, if_neg]; rw [e1]; simp [amt]; omega
          cases n <;> cases m <;> (try (exact absurd hs (by decide)))
          all_goals
            go_enter Tryz.func141, Tryz.ntmps141
            go_wp2_with fail
            refine (HH.out.1 _).mono ?_; rintro e w1 ⟨rfl, rfl⟩
            go_wp2_with fail
            refine (HH.out.2.1 _).mono ?_; rintro e w1 ⟨rfl, rfl⟩
            go_wp2_with fail
            refine (HM.out _).mono ?_; rintro e w1 ⟨rfl, rfl⟩
            clear hnp hp e1 e2 hs hrz
            go_wp2_with fail
            refine (HD.out _).mono ?_; rintro e w1 ⟨rfl, hw1⟩; obtain ⟨hc1, hf1⟩ := bcell hw1; have hz1 := hw1.size; (try simp only [World.size_alloc, World.size_setCell, World.size_drew, size_drewN, Nat.add_one_le_iff] at hz1); (try have hy1 : w.heap.size < w1.heap.size := by omega); (try have hx1 : w.heap.size + 1 < w1.heap.size := by omega); have HW1 := Lib.hid hw1; clear hw1
            go_wp2_with fail
            go_ret3
            exact ⟨ret_tr H.out, (by repeat' (first | (with_reducible exact Below.refl _ _) | (with_reducible refine Below.alloc ?_ ?_ _) | (with_reducible refine below_drewN ?_ _) | (with_reducible refine Below.drew ?_) | (with_reducible refine Below.setCell ?_ ?_ _) | (with_reducible refine Below.trans ?_ (Below.mono HW0.out ?_)) | (with_reducible refine Below.trans ?_ (Below.mono HW1.out ?_)) | (with_reducible refine Below.trans ?_ (Below.mono HW2.out ?_)) | (with_reducible refine Below.trans ?_ (Below.mono HW3.out ?_)) | (with_reducible refine Below.trans ?_ (Below.mono HW4.out ?_)) | (with_reducible refine Below.trans ?_ (Below.mono HW5.out ?_)) | (with_reducible refine Below.trans ?_ (Below.mono HW6.out ?_)) | (with_reducible refine Below.trans ?_ (Below.mono HW7.out ?_)) | (with_reducible exact Nat.le_refl _) | omega | (simp only [World.size_alloc, World.size_setCell, World.size_drew, size_drewN]; omega) | (simp; done) | (simp; omega)))⟩
        · have H : Hid (divS a b c = (-(q + 1), c - r, 0)) := by
            show _ = _; rw [divS, if_pos (by rw [e1]; simp [amt]; omega), e1, e2]
          cases n <;> cases m <;> (try (exact absurd hs (by decide)))
          all_goals
            go_enter Tryz.func141, Tryz.ntmps141
            go_wp2_with fail
            refine (HH.out.1 _).mono ?_; rintro e w1 ⟨rfl, rfl⟩
            go_wp2_with fail
            refine (HH.out.2.1 _).mono ?_; rintro e w1 ⟨rfl, rfl⟩
            go_wp2_with fail
            refine (HM.out _).mono ?_; rintro e w1 ⟨rfl, rfl⟩
            clear hnp hp e1 e2 hs hrz
            go_wp2_with fail
            refine (HD.out _).mono ?_; rintro e w1 ⟨rfl, hw1⟩; obtain ⟨hc1, hf1⟩ := bcell hw1; have hz1 := hw1.size; (try simp only [World.size_alloc, World.size_setCell, World.size_drew, size_drewN, Nat.add_one_le_iff] at hz1); (try have hy1 : w.heap.size < w1.heap.size := by omega); (try have hx1 : w.heap.size + 1 < w1.heap.size := by omega); have HW1 := Lib.hid hw1; clear hw1
            go_wp2_with fail
            go_ret3
            exact ⟨ret_tr H.out, (by repeat' (first | (with_reducible exact Below.refl _ _) | (with_reducible refine Below.alloc ?_ ?_ _) | (with_reducible refine below_drewN ?_ _) | (with_reducible refine Below.drew ?_) | (with_reducible refine Below.setCell ?_ ?_ _) | (with_reducible refine Below.trans ?_ (Below.mono HW0.out ?_)) | (with_reducible refine Below.trans ?_ (Below.mono HW1.out ?_)) | (with_reducible refine Below.trans ?_ (Below.mono HW2.out ?_)) | (with_reducible refine Below.trans ?_ (Below.mono HW3.out ?_)) | (with_reducible refine Below.trans ?_ (Below.mono HW4.out ?_)) | (with_reducible refine Below.trans ?_ (Below.mono HW5.out ?_)) | (with_reducible refine Below.trans ?_ (Below.mono HW6.out ?_)) | (with_reducible refine Below.trans ?_ (Below.mono HW7.out ?_)) | (with_reducible exact Nat.le_refl _) | omega | (simp only [World.size_alloc, World.size_setCell, World.size_drew, size_drewN]; omega) | (simp; done) | (simp; omega)))⟩
    · have hnp : a * b = q * c + r := by have h1 := HQ.out; have h2 := HP.out; omega
      obtain ⟨e1, e2⟩ := div_pos_ hnp hr0 hr1
      by_cases hbig : 4611686018427387904 < q
      · have H : Hid (divS a b c = (0, 0, 2)) := by
          show _ = _; rw [divS, if_neg]; rw [e1]; simp [amt]; omega
        cases n <;> cases m <;> (try (exact absurd hs (by decide)))
        all_goals
          go_enter Tryz.func141, Tryz.ntmps141
          go_wp2_with fail
          refine (HH.out.1 _).mono ?_; rintro e w1 ⟨rfl, rfl⟩
          go_wp2_with fail
          refine (HH.out.2.1 _).mono ?_; rintro e w1 ⟨rfl, rfl⟩
          go_wp2_with fail
          refine (HM.out _).mono ?_; rintro e w1 ⟨rfl, rfl⟩
          clear hnp hp e1 e2 hs
          go_wp2_with fail
          refine (HD.out _).mono ?_; rintro e w1 ⟨rfl, hw1⟩; obtain ⟨hc1, hf1⟩ := bcell hw1; have hz1 := hw1.size; (try simp only [World.size_alloc, World.size_setCell, World.size_drew, size_drewN, Nat.add_one_le_iff] at hz1); (try have hy1 : w.heap.size < w1.heap.size := by omega); (try have hx1 : w.heap.size + 1 < w1.heap.size := by omega); have HW1 := Lib.hid hw1; clear hw1
          go_wp2_with fail
          go_ret3
          exact ⟨ret_tr H.out, (by repeat' (first | (with_reducible exact Below.refl _ _) | (with_reducible refine Below.alloc ?_ ?_ _) | (with_reducible refine below_drewN ?_ _) | (with_reducible refine Below.drew ?_) | (with_reducible refine Below.setCell ?_ ?_ _) | (with_reducible refine Below.trans ?_ (Below.mono HW0.out ?_)) | (with_reducible refine Below.trans ?_ (Below.mono HW1.out ?_)) | (with_reducible refine Below.trans ?_ (Below.mono HW2.out ?_)) | (with_reducible refine Below.trans ?_ (Below.mono HW3.out ?_)) | (with_reducible refine Below.trans ?_ (Below.mono HW4.out ?_)) | (with_reducible refine Below.trans ?_ (Below.mono HW5.out ?_)) | (with_reducible refine Below.trans ?_ (Below.mono HW6.out ?_)) | (with_reducible refine Below.trans ?_ (Below.mono HW7.out ?_)) | (with_reducible exact Nat.le_refl _) | omega | (simp only [World.size_alloc, World.size_setCell, World.size_drew, size_drewN]; omega) | (simp; done) | (simp; omega)))⟩
      · have H : Hid (divS a b c = (q, r, 0)) := by
          show _ = _; rw [divS, if_pos (by rw [e1]; simp [amt]; omega), e1, e2]
        cases n <;> cases m <;> (try (exact absurd hs (by decide)))
        all_goals
          go_enter Tryz.func141, Tryz.ntmps141
          go_wp2_with fail
          refine (HH.out.1 _).mono ?_; rintro e w1 ⟨rfl, rfl⟩
          go_wp2_with fail
          refine (HH.out.2.1 _).mono ?_; rintro e w1 ⟨rfl, rfl⟩
          go_wp2_with fail
          refine (HM.out _).mono ?_; rintro e w1 ⟨rfl, rfl⟩
          clear hnp hp e1 e2 hs
          go_wp2_with fail
          refine (HD.out _).mono ?_; rintro e w1 ⟨rfl, hw1⟩; obtain ⟨hc1, hf1⟩ := bcell hw1; have hz1 := hw1.size; (try simp only [World.size_alloc, World.size_setCell, World.size_drew, size_drewN, Nat.add_one_le_iff] at hz1); (try have hy1 : w.heap.size < w1.heap.size := by omega); (try have hx1 : w.heap.size + 1 < w1.heap.size := by omega); have HW1 := Lib.hid hw1; clear hw1
          go_wp2_with fail
          go_ret3
          exact ⟨ret_tr H.out, (by repeat' (first | (with_reducible exact Below.refl _ _) | (with_reducible refine Below.alloc ?_ ?_ _) | (with_reducible refine below_drewN ?_ _) | (with_reducible refine Below.drew ?_) | (with_reducible refine Below.setCell ?_ ?_ _) | (with_reducible refine Below.trans ?_ (Below.mono HW0.out ?_)) | (with_reducible refine Below.trans ?_ (Below.mono HW1.out ?_)) | (with_reducible refine Below.trans ?_ (Below.mono HW2.out ?_)) | (with_reducible refine Below.trans ?_ (Below.mono HW3.out ?_)) | (with_reducible refine Below.trans ?_ (Below.mono HW4.out ?_)) | (with_reducible refine Below.trans ?_ (Below.mono HW5.out ?_)) | (with_reducible refine Below.trans ?_ (Below.mono HW6.out ?_)) | (with_reducible refine Below.trans ?_ (Below.mono HW7.out ?_)) | (with_reducible exact Nat.le_refl _) | omega | (simp only [World.size_alloc, World.size_setCell, World.size_drew, size_drewN]; omega) | (simp; done) | (simp; omega)))⟩

def mulDivS (a b c : Int) : Int × Int := if (amt a && (amt b && amt c)) && decide (1 ≤ c) then told (a * b / c) else (0, 1)
theorem mulDiv_any (a b c : Int) (w : World) (hf : fine a b c) :
    Calls Tryz.prog 91 #[.int .i64 a, .int .i64 b, .int .i64 c] w fun e w' => e = .returned (pr (mulDivS a b c)) ∧ Below w.heap.size w w' := by
  by_cases h : (amt a && (amt b && amt c)) = true
  · have h0 : amt a = true ∧ amt b = true ∧ amt c = true := by simpa using h
    have ha := amt_yes h0.1; have hb := amt_yes h0.2.1; have hc := amt_yes h0.2.2
    clear h0
    by_cases h1 : 1 ≤ c
    · have H : Hid ((divS a b c).1 = (mulDivS a b c).1 ∧ (divS a b c).2.2 = (mulDivS a b c).2) := by
        show _ ∧ _
        have e : mulDivS a b c = told (a * b / c) := by rw [mulDivS, if_pos (by simp at h; simp [h, h1])]
        rw [e]; unfold divS told; split <;> simp
      have HF := Lib.hid hf; clear hf
      go_enter Tryz.func91, Tryz.ntmps91
      go_wp2_with fail
      refine (is3 a b c w).mono ?_; rintro e w1 ⟨rfl, rfl⟩
      rw [h]; clear h
      go_wp2_with fail
      refine (divided_any a b c _ ha hb h1 hc.2 HF.out).mono ?_; rintro e w1 ⟨rfl, hw1⟩; obtain ⟨hc1, hf1⟩ := bcell hw1; have hz1 := hw1.size; (try simp only [World.size_alloc, World.size_setCell, World.size_drew, size_drewN, Nat.add_one_le_iff] at hz1); (try have hy1 : w.heap.size < w1.heap.size := by omega); (try have hx1 : w.heap.size + 1 < w1.heap.size := by omega); have HW1 := Lib.hid hw1; clear hw1
      go_wp2_with fail
      go_ret2
      exact ⟨ret_pr (by rw [H.out.1, H.out.2]), (by repeat' (first | (with_reducible exact Below.refl _ _) | (with_reducible refine Below.alloc ?_ ?_ _) | (with_reducible refine below_drewN ?_ _) | (with_reducible refine Below.drew ?_) | (with_reducible refine Below.setCell ?_ ?_ _) | (with_reducible refine Below.trans ?_ (Below.mono HW0.out ?_)) | (with_reducible refine Below.trans ?_ (Below.mono HW1.out ?_)) | (with_reducible refine Below.trans ?_ (Below.mono HW2.out ?_)) | (with_reducible refine Below.trans ?_ (Below.mono HW3.out ?_)) | (with_reducible refine Below.trans ?_ (Below.mono HW4.out ?_)) | (with_reducible refine Below.trans ?_ (Below.mono HW5.out ?_)) | (with_reducible refine Below.trans ?_ (Below.mono HW6.out ?_)) | (with_reducible refine Below.trans ?_ (Below.mono HW7.out ?_)) | (with_reducible exact Nat.le_refl _) | omega | (simp only [World.size_alloc, World.size_setCell, World.size_drew, size_drewN]; omega) | (simp; done) | (simp; omega)))⟩
    · have H : Hid (mulDivS a b c = (0, 1)) := by show _ = _; rw [mulDivS, if_neg (by simp [h1])]
      go_enter Tryz.func91, Tryz.ntmps91
      go_wp2_with fail
      refine (is3 a b c w).mono ?_; rintro e w1 ⟨rfl, rfl⟩
      rw [h]; clear h
      go_wp2_with fail
      go_ret2
      exact ⟨ret_pr H.out, (by repeat' (first | (with_reducible exact Below.refl _ _) | (with_reducible refine Below.alloc ?_ ?_ _) | (with_reducible refine below_drewN ?_ _) | (with_reducible refine Below.drew ?_) | (with_reducible refine Below.setCell ?_ ?_ _) | (with_reducible refine Below.trans ?_ (Below.mono HW0.out ?_)) | (with_reducible refine Below.trans ?_ (Below.mono HW1.out ?_)) | (with_reducible refine Below.trans ?_ (Below.mono HW2.out ?_)) | (with_reducible refine Below.trans ?_ (Below.mono HW3.out ?_)) | (with_reducible refine Below.trans ?_ (Below.mono HW4.out ?_)) | (with_reducible refine Below.trans ?_ (Below.mono HW5.out ?_)) | (with_reducible refine Below.trans ?_ (Below.mono HW6.out ?_)) | (with_reducible refine Below.trans ?_ (Below.mono HW7.out ?_)) | (with_reducible exact Nat.le_refl _) | omega | (simp only [World.size_alloc, World.size_setCell, World.size_drew, size_drewN]; omega) | (simp; done) | (simp; omega)))⟩
  · have H : Hid (mulDivS a b c = (0, 1)) := by show _ = _; rw [mulDivS, if_neg (by simp [h])]
    go_enter Tryz.func91, Tryz.ntmps91
    go_wp2_with fail
    refine (is3 a b c w).mono ?_; rintro e w1 ⟨rfl, rfl⟩
    rw [Bool.eq_false_iff.2 h]; clear h
    go_wp2_with fail
    go_ret2
    exact ⟨ret_pr H.out, (by repeat' (first | (with_reducible exact Below.refl _ _) | (with_reducible refine Below.alloc ?_ ?_ _) | (with_reducible refine below_drewN ?_ _) | (with_reducible refine Below.drew ?_) | (with_reducible refine Below.setCell ?_ ?_ _) | (with_reducible refine Below.trans ?_ (Below.mono HW0.out ?_)) | (with_reducible refine Below.trans ?_ (Below.mono HW1.out ?_)) | (with_reducible refine Below.trans ?_ (Below.mono HW2.out ?_)) | (with_reducible refine Below.trans ?_ (Below.mono HW3.out ?_)) | (with_reducible refine Below.trans ?_ (Below.mono HW4.out ?_)) | (with_reducible refine Below.trans ?_ (Below.mono HW5.out ?_)) | (with_reducible refine Below.trans ?_ (Below.mono HW6.out ?_)) | (with_reducible refine Below.trans ?_ (Below.mono HW7.out ?_)) | (with_reducible exact Nat.le_refl _) | omega | (simp only [World.size_alloc, World.size_setCell, World.size_drew, size_drewN]; omega) | (simp; done) | (simp; omega)))⟩
end Go.Proofs.YtbjjgnaojoaoiaaGreat
/- Mul, both sides. -/
namespace Go.Proofs.YtbjjgnaojoaoiaaGreat
open Go.RowKit Go
set_option linter.unusedVariables false
set_option linter.unusedSimpArgs false

def mulS (a b : Int) : Int × Int := if amt a && amt b then told (a * b) else (0, 1)
theorem amt_abs2 {a : Int} (h : amt a = true) : 0 ≤ (a.natAbs : Int) ∧ (a.natAbs : Int) ≤ 18446744073709551615 := by have := amt_yes h; omega
theorem wz_mul (a b : Int) : wz (decide (a < 0) != decide (b < 0)) (a.natAbs * b.natAbs) = a * b := by
  by_cases h : a < 0 <;> by_cases g : b < 0 <;> simp [wz, h, g]
  · rw [show (a.natAbs : Int) = -a by omega, show (b.natAbs : Int) = -b by omega, Int.neg_mul_neg]
  · rw [show (a.natAbs : Int) = -a by omega, show (b.natAbs : Int) = b by omega, Int.neg_mul, Int.neg_neg]
  · rw [show (a.natAbs : Int) = a by omega, show (b.natAbs : Int) = -b by omega, Int.mul_neg, Int.neg_neg]
  · rw [show (a.natAbs : Int) = a by omega, show (b.natAbs : Int) = b by omega]
theorem mul_big {a b : Int} (ha : amt a = true) (hb : amt b = true) : 0 ≤ (a.natAbs : Int) * b.natAbs ∧ (a.natAbs : Int) * b.natAbs < big := by
  have h1 := amt_abs ha; have h2 := amt_abs hb
  have : (a.natAbs : Int) * b.natAbs ≤ 4611686018427387904 * 4611686018427387904 :=
    Int.le_trans (Int.mul_le_mul_of_nonneg_left h2 (by omega)) (Int.mul_le_mul_of_nonneg_right h1 (by omega))
  refine ⟨Int.mul_nonneg (by omega) (by omega), ?_⟩
  unfold big; omega

theorem mul_fine (a b : Int) : fine a b 1 := by unfold fine; omega
theorem mulDiv_one (a b : Int) : mulDivS a b 1 = mulS a b := by
  unfold mulDivS mulS
  have : amt 1 = true := by decide
  rw [this, Int.ediv_one]; simp
end Go.Proofs.YtbjjgnaojoaoiaaGreat
/- accrue.Simple, the reference's one. -/
namespace Go.Proofs.YtbjjgnaojoaoiaaGreat
open Go.RowKit Go
set_option linter.unusedVariables false
set_option linter.unusedSimpArgs false

def okP (a : Int) : Bool := decide (0 ≤ a ∧ a ≤ 4611686018427387904)
def okR (a : Int) : Bool := decide (0 ≤ a ∧ a ≤ 100000)
def okD (a : Int) : Bool := decide (0 ≤ a ∧ a ≤ 3652058)
theorem okP_yes {a : Int} (h : okP a = true) : 0 ≤ a ∧ a ≤ 4611686018427387904 := by simpa [okP] using h
theorem okP_no {a : Int} (h : ¬ okP a = true) : a < 0 ∨ 4611686018427387904 < a := by
  have : ¬ (0 ≤ a ∧ a ≤ 4611686018427387904) := by simpa [okP] using h
  omega
theorem okR_yes {a : Int} (h : okR a = true) : 0 ≤ a ∧ a ≤ 100000 := by simpa [okR] using h
theorem okR_no {a : Int} (h : ¬ okR a = true) : a < 0 ∨ 100000 < a := by
  have : ¬ (0 ≤ a ∧ a ≤ 100000) := by simpa [okR] using h
  omega
theorem okD_yes {a : Int} (h : okD a = true) : 0 ≤ a ∧ a ≤ 3652058 := by simpa [okD] using h
theorem okD_no {a : Int} (h : ¬ okD a = true) : a < 0 ∨ 3652058 < a := by
  have : ¬ (0 ≤ a ∧ a ≤ 3652058) := by simpa [okD] using h
  omega
theorem isP_any (a : Int) (w : World) : Calls Tryz.prog 168 #[.int .i64 a] w fun e w' => e = .returned (.bool (okP a)) ∧ w = w' := by
  by_cases h : okP a = true
  · have h1 := okP_yes h
    have H := Lib.hid h; clear h
    go_enter Tryz.func168, Tryz.ntmps168
    go_wp2
    go_ret
    exact ⟨ret_bool H.out.symm, rfl⟩
  · have h1 := okP_no h
    have H := Lib.hid h; clear h
    rcases h1 with h1 | h1
    all_goals
      go_enter Tryz.func168, Tryz.ntmps168
      go_wp2
      all_goals go_ret
      all_goals have e := Bool.eq_false_iff.2 H.out
      all_goals exact ⟨ret_bool (by first | (rw [e]; done) | (rw [e]; simp; omega)), rfl⟩

theorem isR_any (a : Int) (w : World) : Calls Tryz.prog 169 #[.int .i64 a] w fun e w' => e = .returned (.bool (okR a)) ∧ w = w' := by
  by_cases h : okR a = true
  · have h1 := okR_yes h
    have H := Lib.hid h; clear h
    go_enter Tryz.func169, Tryz.ntmps169
    go_wp2
    go_ret
    exact ⟨ret_bool H.out.symm, rfl⟩
  · have h1 := okR_no h
    have H := Lib.hid h; clear h
    rcases h1 with h1 | h1
    all_goals
      go_enter Tryz.func169, Tryz.ntmps169
      go_wp2
      all_goals go_ret
      all_goals have e := Bool.eq_false_iff.2 H.out
      all_goals exact ⟨ret_bool (by first | (rw [e]; done) | (rw [e]; simp; omega)), rfl⟩

theorem isD_any (a : Int) (w : World) : Calls Tryz.prog 170 #[.int .i64 a] w fun e w' => e = .returned (.bool (okD a)) ∧ w = w' := by
  by_cases h : okD a = true
  · have h1 := okD_yes h
    have H := Lib.hid h; clear h
    go_enter Tryz.func170, Tryz.ntmps170
    go_wp2
    go_ret
    exact ⟨ret_bool H.out.symm, rfl⟩
  · have h1 := okD_no h
    have H := Lib.hid h; clear h
    rcases h1 with h1 | h1
    all_goals
      go_enter Tryz.func170, Tryz.ntmps170
      go_wp2
      all_goals go_ret
      all_goals have e := Bool.eq_false_iff.2 H.out
      all_goals exact ⟨ret_bool (by first | (rw [e]; done) | (rw [e]; simp; omega)), rfl⟩

theorem isP_ref (a : Int) (w : World) : Calls Tryz.prog 160 #[.int .i64 a] w fun e w' => e = .returned (.bool (okP a)) ∧ w = w' := by
  by_cases h : okP a = true
  · have h1 := okP_yes h
    have H := Lib.hid h; clear h
    go_enter Tryz.func160, Tryz.ntmps160
    go_wp2
    go_ret
    exact ⟨ret_bool H.out.symm, rfl⟩
  · have h1 := okP_no h
    have H := Lib.hid h; clear h
    rcases h1 with h1 | h1
    all_goals
      go_enter Tryz.func160, Tryz.ntmps160
      go_wp2
      all_goals go_ret
      all_goals have e := Bool.eq_false_iff.2 H.out
      all_goals exact ⟨ret_bool (by first | (rw [e]; done) | (rw [e]; simp; omega)), rfl⟩

theorem isR_ref (a : Int) (w : World) : Calls Tryz.prog 66 #[.int .i64 a] w fun e w' => e = .returned (.bool (okR a)) ∧ w = w' := by
  by_cases h : okR a = true
  · have h1 := okR_yes h
    have H := Lib.hid h; clear h
    go_enter Tryz.func66, Tryz.ntmps66
    go_wp2
    go_ret
    exact ⟨ret_bool H.out.symm, rfl⟩
  · have h1 := okR_no h
    have H := Lib.hid h; clear h
    rcases h1 with h1 | h1
    all_goals
      go_enter Tryz.func66, Tryz.ntmps66
      go_wp2
      all_goals go_ret
      all_goals have e := Bool.eq_false_iff.2 H.out
      all_goals exact ⟨ret_bool (by first | (rw [e]; done) | (rw [e]; simp; omega)), rfl⟩

end Go.Proofs.YtbjjgnaojoaoiaaGreat
/- Simple, both sides; the walks of AccrueSimple, AccrueRises, AccrueYears. -/
namespace Go.Proofs.YtbjjgnaojoaoiaaGreat
open Go.RowKit Go
set_option linter.unusedVariables false
set_option linter.unusedSimpArgs false

def simpleS (p bp d : Int) : Int × Int := if okP p && okR bp && okD d then told (p * (bp * d) / 3650000) else (0, 1)
theorem rate_days {bp d : Int} (hb : 0 ≤ bp ∧ bp ≤ 100000) (hd : 0 ≤ d ∧ d ≤ 3652058) : 0 ≤ bp * d ∧ bp * d ≤ 365205800000 := by
  refine ⟨Int.mul_nonneg hb.1 hd.1, Int.le_trans (Int.mul_le_mul_of_nonneg_right hb.2 hd.1) ?_⟩
  omega
theorem simple_mulDiv {p bp d : Int} (hp : okP p = true) (hb : okR bp = true) (hd : okD d = true) : mulDivS p (bp * d) 3650000 = simpleS p bp d := by
  have h1 := okP_yes hp; have h2 := rate_days (okR_yes hb) (okD_yes hd)
  have a1 : amt p = true := by simp [amt]; omega
  have a2 : amt (bp * d) = true := by simp [amt]; omega
  have a3 : amt 3650000 = true := by decide
  rw [mulDivS, simpleS, hp, hb, hd, a1, a2, a3]; rfl
theorem simple_fine {p x : Int} (hp : 0 ≤ p) (hx : 0 ≤ x) (c : Int) : fine p x c := .inl (Int.mul_nonneg hp hx)

set_option maxHeartbeats 400000 in
set_option maxRecDepth 100000 in
theorem simple_any (p bp d : Int) (w : World) : Calls Tryz.prog 137 #[.int .i64 p, .int .i64 bp, .int .i64 d] w fun e w' => e = .returned (pr (simpleS p bp d)) ∧ Below w.heap.size w w' := by
  by_cases hp : okP p = true
  · by_cases hb : okR bp = true
    · by_cases hd : okD d = true
      · have h1 := okP_yes hp
        have h2 := rate_days (okR_yes hb) (okD_yes hd)
        have H := Lib.hid (simple_mulDiv hp hb hd)
        go_enter Tryz.func137, Tryz.ntmps137
        go_wp2_with fail
        refine (isP_any p _).mono ?_; rintro e w' ⟨rfl, rfl⟩
        rw [hp]; clear hp
        go_wp2_with fail
        refine (isR_any bp _).mono ?_; rintro e w' ⟨rfl, rfl⟩
        rw [hb]; clear hb
        go_wp2_with fail
        refine (isD_any d _).mono ?_; rintro e w' ⟨rfl, rfl⟩
        rw [hd]; clear hd
        go_wp2_with fail
        refine (mulDiv_any p (bp * d) 3650000 _ (simple_fine h1.1 h2.1 _)).mono ?_; rintro e w1 ⟨rfl, hw1⟩; obtain ⟨hc1, hf1⟩ := bcell hw1; have hz1 := hw1.size; (try simp only [World.size_alloc, World.size_setCell, World.size_drew, size_drewN, Nat.add_one_le_iff] at hz1); (try have hy1 : w.heap.size < w1.heap.size := by omega); (try have hx1 : w.heap.size + 1 < w1.heap.size := by omega); have HW1 := Lib.hid hw1; clear hw1
        go_wp2_with fail
        go_ret2
        exact ⟨ret_pr (by rw [H.out]), (by repeat' (first | (with_reducible exact Below.refl _ _) | (with_reducible refine Below.alloc ?_ ?_ _) | (with_reducible refine below_drewN ?_ _) | (with_reducible refine Below.drew ?_) | (with_reducible refine Below.setCell ?_ ?_ _) | (with_reducible refine Below.trans ?_ (Below.mono HW0.out ?_)) | (with_reducible refine Below.trans ?_ (Below.mono HW1.out ?_)) | (with_reducible refine Below.trans ?_ (Below.mono HW2.out ?_)) | (with_reducible refine Below.trans ?_ (Below.mono HW3.out ?_)) | (with_reducible refine Below.trans ?_ (Below.mono HW4.out ?_)) | (with_reducible refine Below.trans ?_ (Below.mono HW5.out ?_)) | (with_reducible refine Below.trans ?_ (Below.mono HW6.out ?_)) | (with_reducible refine Below.trans ?_ (Below.mono HW7.out ?_)) | (with_reducible exact Nat.le_refl _) | omega | (simp only [World.size_alloc, World.size_setCell, World.size_drew, size_drewN]; omega) | (simp; done) | (simp; omega)))⟩
      · have H : Hid (simpleS p bp d = (0, 1)) := by show _ = _; rw [simpleS, if_neg (by simp [hd])]
        go_enter Tryz.func137, Tryz.ntmps137
        go_wp2_with fail
        refine (isP_any p _).mono ?_; rintro e w' ⟨rfl, rfl⟩
        rw [hp]; clear hp
        go_wp2_with fail
        refine (isR_any bp _).mono ?_; rintro e w' ⟨rfl, rfl⟩
        rw [hb]; clear hb
        go_wp2_with fail
        refine (isD_any d _).mono ?_; rintro e w' ⟨rfl, rfl⟩
        rw [Bool.eq_false_iff.2 hd]; clear hd
        go_wp2_with fail
        go_ret2
        exact ⟨ret_pr H.out, Below.refl _ _⟩
    · have H : Hid (simpleS p bp d = (0, 1)) := by show _ = _; rw [simpleS, if_neg (by simp [hb])]
      go_enter Tryz.func137, Tryz.ntmps137
      go_wp2_with fail
      refine (isP_any p _).mono ?_; rintro e w' ⟨rfl, rfl⟩
      rw [hp]; clear hp
      go_wp2_with fail
      refine (isR_any bp _).mono ?_; rintro e w' ⟨rfl, rfl⟩
      rw [Bool.eq_false_iff.2 hb]; clear hb
      go_wp2_with fail
      go_ret2
      exact ⟨ret_pr H.out, Below.refl _ _⟩
  · have H : Hid (simpleS p bp d = (0, 1)) := by show _ = _; rw [simpleS, if_neg (by simp [hp])]
    go_enter Tryz.func137, Tryz.ntmps137
    go_wp2_with fail
    refine (isP_any p _).mono ?_; rintro e w' ⟨rfl, rfl⟩
    rw [Bool.eq_false_iff.2 hp]; clear hp
    go_wp2_with fail
    go_ret2
    exact ⟨ret_pr H.out, Below.refl _ _⟩

theorem DivRes.pre {n : Bool} {m c : Int} {w0 w' : World} {e : Ending} (h : DivRes n m c w0 e w') : ∃ n' q, e = .returned (.tuple #[wd n' q, .int .i64 (wz n m % c)]) ∧ 0 ≤ q ∧ q ≤ m ∧ Hid (wz n' q = wz n m / c) ∧ Below w0.heap.size w0 w' := by
  obtain ⟨⟨n', q, h1, h2, h3, h4⟩, h5⟩ := h
  exact ⟨n', q, h1, h2, h3, h4, h5⟩

theorem of_nat (a : Int) (w : World) (h0 : 0 ≤ a) (ha : a ≤ 9223372036854775807) : Calls Tryz.prog 16 #[.int .i64 a] w fun e w' => e = .returned (wd false a) ∧ Below w.heap.size w w' := by
  have := of_any a w (by omega)
  rwa [decide_eq_false (by omega), show (a.natAbs : Int) = a by omega] at this

set_option maxHeartbeats 800000 in
set_option maxRecDepth 100000 in
theorem rsimple_any (p bp d : Int) (w : World) : Calls Tryz.prog 192 #[.int .i64 p, .int .i64 bp, .int .i64 d] w fun e w' => e = .returned (pr (simpleS p bp d)) ∧ Below w.heap.size w w' := by
  by_cases hp : okP p = true
  · by_cases hb : okR bp = true
    · by_cases hd : okD d = true
      · have h1 := okP_yes hp
        have h2 := rate_days (okR_yes hb) (okD_yes hd)
        have h3 := okD_yes hd
        have H : Hid (simpleS p bp d = told (p * (bp * d) / 3650000)) := by show _ = _; rw [simpleS, hp, hb, hd]; rfl
        have h4 : 0 ≤ p * (bp * d) := Int.mul_nonneg h1.1 h2.1
        have h5 : p * (bp * d) < big := by
          have : p * (bp * d) ≤ 4611686018427387904 * 365205800000 := Int.le_trans (Int.mul_le_mul_of_nonneg_left h2.2 h1.1) (Int.mul_le_mul_of_nonneg_right h1.2 (by omega))
          unfold big; omega
        clear hd
        go_enter Tryz.func192, Tryz.ntmps192
        go_wp2_with fail
        refine (isP_ref p _).mono ?_; rintro e w' ⟨rfl, rfl⟩
        rw [hp]; clear hp
        go_wp2_with fail
        refine (isR_ref bp _).mono ?_; rintro e w' ⟨rfl, rfl⟩
        rw [hb]; clear hb
        go_wp2_with fail
        refine (of_nat p _ h1.1 (by omega)).mono ?_; rintro e w1 ⟨rfl, hw1⟩; obtain ⟨hc1, hf1⟩ := bcell hw1; have hz1 := hw1.size; (try simp only [World.size_alloc, World.size_setCell, World.size_drew, size_drewN, Nat.add_one_le_iff] at hz1); (try have hy1 : w.heap.size < w1.heap.size := by omega); (try have hx1 : w.heap.size + 1 < w1.heap.size := by omega); have HW1 := Lib.hid hw1; clear hw1
        go_wp2_with fail
        refine (of_nat (bp * d) _ h2.1 (by omega)).mono ?_; rintro e w2 ⟨rfl, hw2⟩; obtain ⟨hc2, hf2⟩ := bcell hw2; have hz2 := hw2.size; (try simp only [World.size_alloc, World.size_setCell, World.size_drew, size_drewN, Nat.add_one_le_iff] at hz2); (try have hy2 : w.heap.size < w2.heap.size := by omega); (try have hx2 : w.heap.size + 1 < w2.heap.size := by omega); have HW2 := Lib.hid hw2; clear hw2
        go_wp2_with fail
        refine (wmul_any false false p (bp * d) _ ⟨h1.1, by omega⟩ ⟨h2.1, by omega⟩).mono ?_; rintro e w3 ⟨rfl, hw3⟩; obtain ⟨hc3, hf3⟩ := bcell hw3; have hz3 := hw3.size; (try simp only [World.size_alloc, World.size_setCell, World.size_drew, size_drewN, Nat.add_one_le_iff] at hz3); (try have hy3 : w.heap.size < w3.heap.size := by omega); (try have hx3 : w.heap.size + 1 < w3.heap.size := by omega); have HW3 := Lib.hid hw3; clear hw3
        go_wp2_with fail
        refine (wdiv_any false (p * (bp * d)) 3650000 _ h4 h5 (by omega) (by omega)).mono ?_
        intro e w4 h6; obtain ⟨n', q, rfl, hq0, hq1, hq2, hw4⟩ := DivRes.pre h6; clear h6; obtain ⟨hc4, hf4⟩ := bcell hw4; have hz4 := hw4.size; (try simp only [World.size_alloc, World.size_setCell, World.size_drew, size_drewN, Nat.add_one_le_iff] at hz4); (try have hy4 : w.heap.size < w4.heap.size := by omega); (try have hx4 : w.heap.size + 1 < w4.heap.size := by omega); have HW4 := Lib.hid hw4; clear hw4
        go_wp2_with fail
        refine (wtold_any n' q _ hq0 (by omega)).mono ?_; rintro e w5 ⟨rfl, hw5⟩; obtain ⟨hc5, hf5⟩ := bcell hw5; have hz5 := hw5.size; (try simp only [World.size_alloc, World.size_setCell, World.size_drew, size_drewN, Nat.add_one_le_iff] at hz5); (try have hy5 : w.heap.size < w5.heap.size := by omega); (try have hx5 : w.heap.size + 1 < w5.heap.size := by omega); have HW5 := Lib.hid hw5; clear hw5
        go_wp2_with fail
        go_ret2
        exact ⟨ret_pr (by rw [H.out, hq2.out]; rfl), (by repeat' (first | (with_reducible exact Below.refl _ _) | (with_reducible refine Below.alloc ?_ ?_ _) | (with_reducible refine below_drewN ?_ _) | (with_reducible refine Below.drew ?_) | (with_reducible refine Below.setCell ?_ ?_ _) | (with_reducible refine Below.trans ?_ (Below.mono HW0.out ?_)) | (with_reducible refine Below.trans ?_ (Below.mono HW1.out ?_)) | (with_reducible refine Below.trans ?_ (Below.mono HW2.out ?_)) | (with_reducible refine Below.trans ?_ (Below.mono HW3.out ?_)) | (with_reducible refine Below.trans ?_ (Below.mono HW4.out ?_)) | (with_reducible refine Below.trans ?_ (Below.mono HW5.out ?_)) | (with_reducible refine Below.trans ?_ (Below.mono HW6.out ?_)) | (with_reducible refine Below.trans ?_ (Below.mono HW7.out ?_)) | (with_reducible exact Nat.le_refl _) | omega | (simp only [World.size_alloc, World.size_setCell, World.size_drew, size_drewN]; omega) | (simp; done) | (simp; omega)))⟩
      · have H : Hid (simpleS p bp d = (0, 1)) := by show _ = _; rw [simpleS, if_neg (by simp [hd])]
        have h3 := okD_no hd
        clear hd
        rcases h3 with h3 | h3
        all_goals
          go_enter Tryz.func192, Tryz.ntmps192
          go_wp2_with fail
          refine (isP_ref p _).mono ?_; rintro e w' ⟨rfl, rfl⟩
          rw [hp]
          go_wp2_with fail
          refine (isR_ref bp _).mono ?_; rintro e w' ⟨rfl, rfl⟩
          rw [hb]
          go_wp2_with fail
          go_ret2
          exact ⟨ret_pr H.out, Below.refl _ _⟩
    · have H : Hid (simpleS p bp d = (0, 1)) := by show _ = _; rw [simpleS, if_neg (by simp [hb])]
      go_enter Tryz.func192, Tryz.ntmps192
      go_wp2_with fail
      refine (isP_ref p _).mono ?_; rintro e w' ⟨rfl, rfl⟩
      rw [hp]; clear hp
      go_wp2_with fail
      refine (isR_ref bp _).mono ?_; rintro e w' ⟨rfl, rfl⟩
      rw [Bool.eq_false_iff.2 hb]; clear hb
      go_wp2_with fail
      go_ret2
      exact ⟨ret_pr H.out, Below.refl _ _⟩
  · have H : Hid (simpleS p bp d = (0, 1)) := by show _ = _; rw [simpleS, if_neg (by simp [hp])]
    go_enter Tryz.func192, Tryz.ntmps192
    go_wp2_with fail
    refine (isP_ref p _).mono ?_; rintro e w' ⟨rfl, rfl⟩
    rw [Bool.eq_false_iff.2 hp]; clear hp
    go_wp2_with fail
    refine (isR_ref bp _).mono ?_; rintro e w' ⟨rfl, rfl⟩
    go_wp2_with fail
    go_ret2
    exact ⟨ret_pr H.out, Below.refl _ _⟩
end Go.Proofs.YtbjjgnaojoaoiaaGreat
/- assess.Bill. -/
namespace Go.Proofs.YtbjjgnaojoaoiaaGreat
open Go.RowKit Go
set_option linter.unusedVariables false
set_option linter.unusedSimpArgs false

@[reducible] def blV (b : Bl) : Value := .agg #[.int .i64 b.tax, .int .i64 b.prin, .int .i64 b.pen, .int .i64 b.exc]
/-- What a bill comes to, with its error. -/
@[reducible] def blR (p : Bl × Int) : Value := .tuple #[blV p.1, .int .i64 p.2]
theorem results_row_tmpB {P : Program} {fn : Func} {p q : Tmp} {ty : TypeId} (h : fn.results = #[.cell p ty, .tmp q]) (tmps : Array Value) (w : World) (g : Nat) (t : TypeId) (cs : Array Value) (fr : Nat × Nat) (d : TypeDesc)
    (hp : tmps.getD p undef = .pointer (some ⟨g, 0, none⟩)) (hg : w.heap[g]? = some (.cells cs t fr))
    (hu : P.underlying ty = some d) (hd : (match d with | .struct _ | .array _ _ => true | _ => false) = true) (hi : (P.info? ty).map (·.size) = some cs.size) :
    (results fn tmps).run P w = .ok (.tuple #[.agg cs, tmps.getD q undef]) w := by
  have hp' : tmps[p]?.getD undef = .pointer (some ⟨g, 0, none⟩) := by simpa using hp
  simp [results, h, hp', asAddr, run_loadVar_row w g t ty cs fr d hg hu hd hi]
theorem set4_blkB {w1 : World} {v0 v1 v2 v3 : Value} {t g : Nat} (h : w1.heap[g]? = some (.cells #[v0, v1, v2, v3] t (0, 0))) (u0 u1 u2 u3 : Value) :
    ((((w1.setCell ⟨g, 0, none⟩ u0).setCell ⟨g, 1, none⟩ u1).setCell ⟨g, 2, none⟩ u2).setCell ⟨g, 3, none⟩ u3).heap[g]? = some (.cells #[u0, u1, u2, u3] t (0, 0)) := by
  simp [World.setCell, Array.getElem?_modify, h]
theorem below_set4 {B g : Nat} {w w' : World} (h : Below B w w') (hg : B ≤ g) (u0 u1 u2 u3 : Value) : Below B w ((((w'.setCell ⟨g, 0, none⟩ u0).setCell ⟨g, 1, none⟩ u1).setCell ⟨g, 2, none⟩ u2).setCell ⟨g, 3, none⟩ u3) :=
  (((h.setCell hg _).setCell hg _).setCell hg _).setCell hg _
theorem cells4B {w1 : World} {v0 v1 v2 v3 : Value} {t g : Nat} (h : w1.heap[g]? = some (.cells #[v0, v1, v2, v3] t (0, 0))) :
    w1.cell? ⟨g, 0, none⟩ = some v0 ∧ w1.cell? ⟨g, 1, none⟩ = some v1 ∧ w1.cell? ⟨g, 2, none⟩ = some v2 ∧ w1.cell? ⟨g, 3, none⟩ = some v3 ∧ ∀ i, w1.frozen? ⟨g, i, none⟩ = false := by
  simp [World.cell?, World.frozen?, h]
theorem cells5B {w1 : World} {v0 v1 v2 v3 v4 : Value} {t g : Nat} (h : w1.heap[g]? = some (.cells #[v0, v1, v2, v3, v4] t (0, 0))) :
    w1.cell? ⟨g, 0, none⟩ = some v0 ∧ w1.cell? ⟨g, 1, none⟩ = some v1 ∧ w1.cell? ⟨g, 2, none⟩ = some v2 ∧ w1.cell? ⟨g, 3, none⟩ = some v3 ∧ w1.cell? ⟨g, 4, none⟩ = some v4 := by
  simp [World.cell?, h]
@[reducible] def retO (r : Ret) (t : Nat) : Obj := .cells #[.int .i64 r.per, .int .i64 r.due, .int .i64 r.filed, .int .i64 r.inc, .int .i64 r.wh] t
@[reducible] def blO (a b c d : Int) : Obj := .cells #[.int .i64 a, .int .i64 b, .int .i64 c, .int .i64 d] 85
theorem alloc_blO (w : World) {a b c d a' b' c' d' : Int} (h1 : a = a') (h2 : b = b') (h3 : c = c') (h4 : d = d') : w.alloc (blO a b c d) = w.alloc (blO a' b' c' d') := by subst h1 h2 h3 h4; rfl
/-- What the boxes hold, and where they lie. -/
structure BillBox (w W : World) (A : Option Addr) (n c : Nat) (s : Sch) (r : Ret) : Prop where
  b0 : W.heap[w.heap.size]? = some (schO A n c s)
  b1 : W.heap[w.heap.size + 1]? = some (retO r 37)
  b2 : W.heap[w.heap.size + 2]? = some (blO 0 0 0 0)
  bel : Below w.heap.size w W
theorem BillBox.start (w : World) (A : Option Addr) (n c : Nat) (s : Sch) (r : Ret) : BillBox w (((w.alloc (schO A n c s)).alloc (retO r 37)).alloc (blO 0 0 0 0)) A n c s r :=
  ⟨blk_alloc (blk_alloc (blk_new w _ rfl) _) _, blk_alloc (blk_new _ _ (by simp)) _, blk_new _ _ (by simp), (((Below.refl _ _).alloc (Nat.le_refl _) _).alloc (by simp) _).alloc (by simp; omega) _⟩
theorem BillBox.up {w W W' : World} {A : Option Addr} {n c : Nat} {s : Sch} {r : Ret} (h : BillBox w W A n c s r) (hb : Below W.heap.size W W') : BillBox w W' A n c s r :=
  ⟨blk_below h.b0 hb (blk_lt h.b0), blk_below h.b1 hb (blk_lt h.b1), blk_below h.b2 hb (blk_lt h.b2), h.bel.trans (hb.mono h.bel.size)⟩
theorem simple_fineB {p x : Int} (hp : 0 ≤ p) (hx : 0 ≤ x) (c : Int) : fine p x c := .inl (Int.mul_nonneg hp hx)

set_option maxHeartbeats 3200000 in
set_option maxRecDepth 100000 in
theorem bill_any (A : Option Addr) (n c : Nat) (s : Sch) (r : Ret) (w : World) (hn : s.bs.length = n) (hr : Rd w w.heap.size 2 A n (brCs s.bs)) :
    Calls Tryz.prog 35 #[schV A n c s, retV r] w fun e w' => e = .returned (blR (billS s r)) ∧ Below w.heap.size w w' := by
  have hbx := BillBox.start w A n c s r
  have HTX := Lib.hid (tax_any A n c s r.inc _ hn ((hr.below hbx.bel).wider hbx.bel.size))
  have hz0 : w.heap.size + 2 < (((w.alloc (schO A n c s)).alloc (retO r 37)).alloc (blO 0 0 0 0)).heap.size := by simp
  have HBX := Lib.hid hbx
  clear hn hr hbx
  by_cases hok : (okS s && mny r.inc) = true
  · have hok' : okS s = true ∧ mny r.inc = true := by simpa using hok
    have HOK := Lib.hid (okS_yes hok'.1)
    have ht : taxS s r.inc = (taxV s r.inc, 0) := if_pos hok
    rw [ht] at HTX
    by_cases hrt : retB r = true
    · have HE : Hid (billS s r = (billV s r, 0)) := billS_yes HOK.out hrt
      have HBD := Lib.hid (bill_bd HOK.out hrt)
      have hw := mny_yes (retB_yes hrt).2.2.2.2
      have hd1 := (retB_yes hrt).2.1; have hd2 := (retB_yes hrt).2.2.1
      have HLT := Lib.hid (fun wx => late_any r wx hd1 hd2)
      have htb := taxV_bd HOK.out hok'.2
      obtain ⟨t, htv⟩ : ∃ t, taxV s r.inc = t := ⟨_, rfl⟩
      obtain ⟨p, hpv⟩ : ∃ p, prinV s r = p := ⟨_, rfl⟩
      obtain ⟨x, hxv⟩ : ∃ x, max (r.wh - t) 0 = x := ⟨_, rfl⟩
      have hpt : p = max (t - r.wh) 0 := by rw [← hpv, prinV, htv]
      have HBV : Hid (billV s r = ⟨t, p, penV s p (lateI r), x⟩) := by show _ = _; rw [billV, htv, hpv, hxv]
      rw [htv] at HTX htb
      have hpb : 0 ≤ p ∧ p ≤ 1125899906842624 := by omega
      clear hok hok' ht hd1 hd2 htv hpv
      go_enter Tryz.func35, Tryz.ntmps35
      go_wp2_with fail
      generalize ((w.alloc (schO A n c s)).alloc (retO r 37)).alloc (blO 0 0 0 0) = W at *
      refine HTX.out.mono ?_; rintro e w1 ⟨rfl, hw1⟩
      have HB1 := Lib.hid (HBX.out.up hw1)
      obtain ⟨r0, r1, r2, r3, r4⟩ := cells5B HB1.out.b1
      have hz1 : w.heap.size + 2 < w1.heap.size := blk_lt HB1.out.b2
      clear hw1
      go_wp2_with fail
      refine (aright_any r w1).mono ?_; rintro e w2 ⟨rfl, hw2⟩
      rw [hrt]
      have HB2 := Lib.hid (HB1.out.up hw2)
      obtain ⟨r0, r1, r2, r3, r4⟩ := cells5B HB2.out.b1
      have hz2 : w.heap.size + 2 < w2.heap.size := blk_lt HB2.out.b2
      clear hw2 hrt
      go_upto_region 4 with fail
      go_cut [8] from 27 to 38 (fun v8 wx => v8 = .pointer (some ⟨w2.heap.size, 0, none⟩) ∧ w2.alloc (blO t p 0 x) = wx)
      case first =>
        go_wp2_with fail
        all_goals go_meet
        all_goals exact ⟨rfl, alloc_blO _ (by omega) (by omega) (by omega) (by omega)⟩
      case rest =>
        obtain ⟨rfl, rfl⟩ := hcut
        have HB3 := Lib.hid (HB2.out.up (below_new w2 (blO t p 0 x)))
        have hg3 := heap_alloc_new w2 (blO t p 0 x)
        have hz3 : w2.heap.size < (w2.alloc (blO t p 0 x)).heap.size := by simp
        obtain ⟨g, hg⟩ : ∃ g, g = w2.heap.size := ⟨_, rfl⟩
        rw [← hg] at hg3 hz3
        generalize w2.alloc (blO t p 0 x) = w3 at *
        rw [← hg]
        have hgz : w.heap.size + 2 < g := by omega
        clear hg hxv hpt r0 r1 r2 r3 r4
        obtain ⟨r0, r1, r2, r3, r4⟩ := cells5B HB3.out.b1
        have HG3 := Lib.hid hg3
        have hl0 := lateI_nn r
        obtain ⟨L, hL⟩ : ∃ L, lateI r = L := ⟨_, rfl⟩
        rw [hL] at HBV hl0 HLT
        have hz3' : w.heap.size + 2 < w3.heap.size := by omega
        clear hg3
        go_wp2_with fail
        refine (HLT.out w3).mono ?_; rintro e w4 ⟨rfl, hw4⟩
        have HB4 := Lib.hid (HB3.out.up hw4)
        have hg4 := blk_below HG3.out hw4 hz3
        obtain ⟨q0, q1, q2, q3, q4⟩ := cells4B hg4
        obtain ⟨s0, s1, s2, s3, s4, s5⟩ := cells6 HB4.out.b0
        obtain ⟨o0, o1, o2, o3, o4⟩ := cells4B HB4.out.b2
        have hz4 : g < w4.heap.size := blk_lt hg4
        have HG4 := Lib.hid hg4
        clear hw4 hg4 r0 r1 r2 r3 r4 HLT
        by_cases hc : 0 < p ∧ 0 < L
        · skip
          have hrb := rate_bd HOK.out hl0
          have hpp := pen_prod HOK.out hpb hl0
          have hls := mny_yes HOK.out.2.2.2.2.2.2.2
          obtain ⟨X, hX⟩ : ∃ X, s.lbp * min L s.most = X := ⟨_, rfl⟩
          rw [hX] at hrb hpp
          obtain ⟨N, hN⟩ : ∃ N, p * X / 10000 = N := ⟨_, rfl⟩
          have hNb : 0 ≤ N ∧ N ≤ 67553994410557440 := by omega
          have HP : Hid (penV s p L = min (max N s.least) p) := by show _ = _; rw [penV, if_pos hc, hX, hN]
          have HMD := Lib.hid (mulDiv_any p X 10000 w4 (simple_fineB hpb.1 hrb.1 _))
          have HMV : Hid (mulDivS p X 10000 = (N, 0)) := by
            show _ = _
            have a1 : amt p = true := by simp [amt]; omega
            have a2 : amt X = true := by simp [amt]; omega
            have a3 : amt 10000 = true := by decide
            have a4 : amt N = true := by simp [amt]; omega
            rw [mulDivS, a1, a2, a3, hN]; exact told_yes a4
          obtain ⟨hc1, hc2⟩ := hc
          clear hpp hN
          have hsX : IntKind.i64.wrap (s.lbp * min L s.most) = X := by rw [IntWalk.i64_in _ (by rw [hX]; omega)]; exact hX
          clear hX
          go_wp2_with fail
          refine HMD.out.mono ?_; rintro e w5 ⟨rfl, hw5⟩
          have HB5 := Lib.hid (HB4.out.up hw5)
          have hg5 := blk_below HG4.out hw5 hz4
          obtain ⟨q0, q1, q2, q3, q4⟩ := cells4B hg5
          obtain ⟨s0, s1, s2, s3, s4, s5⟩ := cells6 HB5.out.b0
          obtain ⟨o0, o1, o2, o3, o4⟩ := cells4B HB5.out.b2
          have hz5 : g < w5.heap.size := blk_lt hg5
          have hz6 : w.heap.size + 2 < w5.heap.size := by omega
          have hgne : w.heap.size + 2 ≠ g := by omega
          have hgne' : g ≠ w.heap.size + 2 := by omega
          have HG5 := Lib.hid hg5
          have HFAR := Lib.hid (fun u => blk_far (p := ⟨g, 2, none⟩) HB5.out.b2 hgne u)
          have HSET := Lib.hid (fun u => blk_set HG5.out 2 u)
          clear hw5 hg5
          rw [HMV.out]
          go_wp2_with fail
          refine bodyPost_ret (results_row_tmpB rfl _ _ (w.heap.size + 2) 85 #[.int .i64 t, .int .i64 p, .int .i64 (min (max N s.least) p), .int .i64 x] (0, 0) _ (by rfl) (set4_blkB (HFAR.out _) _ _ _ _) Tryz.underlying85 rfl (by kernel_rfl)) rfl ?_
          exact ⟨by rw [HE.out, HBV.out, HP.out]; rfl, below_set4 (HB5.out.bel.setCell (by show w.heap.size ≤ g; omega) _) (by omega) _ _ _ _⟩
        · have HP : Hid (penV s p L = 0) := if_neg hc
          by_cases hp0 : 0 < p
          · have hL0 : ¬ 0 < L := fun h => hc ⟨hp0, h⟩
            clear hc
            go_wp2_with fail
            refine bodyPost_ret (results_row_tmpB rfl _ _ (w.heap.size + 2) 85 #[.int .i64 t, .int .i64 p, .int .i64 0, .int .i64 x] (0, 0) _ (by rfl) (set4_blkB HB4.out.b2 _ _ _ _) Tryz.underlying85 rfl (by kernel_rfl)) rfl ?_
            exact ⟨by rw [HE.out, HBV.out, HP.out]; rfl, below_set4 HB4.out.bel (by omega) _ _ _ _⟩
          · clear hc
            go_wp2_with fail
            refine bodyPost_ret (results_row_tmpB rfl _ _ (w.heap.size + 2) 85 #[.int .i64 t, .int .i64 p, .int .i64 0, .int .i64 x] (0, 0) _ (by rfl) (set4_blkB HB4.out.b2 _ _ _ _) Tryz.underlying85 rfl (by kernel_rfl)) rfl ?_
            exact ⟨by rw [HE.out, HBV.out, HP.out]; rfl, below_set4 HB4.out.bel (by omega) _ _ _ _⟩
    · have HE : Hid (billS s r = (Bl.zero, 1)) := billS_no2 hrt
      clear hok hok' ht
      go_enter Tryz.func35, Tryz.ntmps35
      go_wp2_with fail
      generalize ((w.alloc (schO A n c s)).alloc (retO r 37)).alloc (blO 0 0 0 0) = W at *
      refine HTX.out.mono ?_; rintro e w1 ⟨rfl, hw1⟩
      have HB1 := Lib.hid (HBX.out.up hw1)
      obtain ⟨r0, r1, r2, r3, r4⟩ := cells5B HB1.out.b1
      have hz1 : w.heap.size + 2 < w1.heap.size := blk_lt HB1.out.b2
      clear hw1
      go_wp2_with fail
      refine (aright_any r w1).mono ?_; rintro e w2 ⟨rfl, hw2⟩
      rw [Bool.eq_false_iff.2 hrt]
      have HB2 := Lib.hid (HB1.out.up hw2)
      obtain ⟨o0, o1, o2, o3, o4⟩ := cells4B HB2.out.b2
      have hz2 : w.heap.size + 2 < w2.heap.size := blk_lt HB2.out.b2
      clear hw2 hrt r0 r1 r2 r3 r4
      go_wp2_with fail
      refine bodyPost_ret (results_row_tmpB rfl _ _ (w.heap.size + 2) 85 #[.int .i64 0, .int .i64 0, .int .i64 0, .int .i64 0] (0, 0) _ (by rfl) (set4_blkB HB2.out.b2 _ _ _ _) Tryz.underlying85 rfl (by kernel_rfl)) rfl ?_
      exact ⟨by rw [HE.out]; rfl, below_set4 HB2.out.bel (by omega) _ _ _ _⟩
  · have ht : taxS s r.inc = (0, 1) := if_neg hok
    rw [ht] at HTX
    have HE : Hid (billS s r = (Bl.zero, 1)) := by
      show _ = _
      by_cases h1 : okS s = true
      · exact billS_no2 (fun h2 => hok (by rw [h1, (retB_yes h2).2.2.2.1]; rfl))
      · exact billS_no1 (fun h2 => h1 (okS_is h2))
    clear hok ht
    go_enter Tryz.func35, Tryz.ntmps35
    go_wp2_with fail
    generalize ((w.alloc (schO A n c s)).alloc (retO r 37)).alloc (blO 0 0 0 0) = W at *
    refine HTX.out.mono ?_; rintro e w1 ⟨rfl, hw1⟩
    have HB1 := Lib.hid (HBX.out.up hw1)
    obtain ⟨o0, o1, o2, o3, o4⟩ := cells4B HB1.out.b2
    have hz1 : w.heap.size + 2 < w1.heap.size := blk_lt HB1.out.b2
    clear hw1
    go_wp2_with fail
    refine bodyPost_ret (results_row_tmpB rfl _ _ (w.heap.size + 2) 85 #[.int .i64 0, .int .i64 0, .int .i64 0, .int .i64 0] (0, 0) _ (by rfl) (set4_blkB HB1.out.b2 _ _ _ _) Tryz.underlying85 rfl (by kernel_rfl)) rfl ?_
    exact ⟨by rw [HE.out]; rfl, below_set4 HB1.out.bel (by omega) _ _ _ _⟩
end Go.Proofs.YtbjjgnaojoaoiaaGreat
