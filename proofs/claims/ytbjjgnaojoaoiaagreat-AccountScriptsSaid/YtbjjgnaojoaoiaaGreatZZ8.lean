/- Laws. -/
import Derived.Test.YtbjjgnaojoaoiaaGreatZZ6
import Derived.Test.YtbjjgnaojoaoiaaGreatZZ7
namespace Go.Proofs.YtbjjgnaojoaoiaaGreat
open Go.RowKit Go
set_option linter.unusedVariables false
set_option linter.unusedSimpArgs false
set_option maxHeartbeats 1600000
set_option maxRecDepth 100000
theorem div64_zero (lo y : Int) (w : World) (h1 : 1 ≤ y) (hl0 : 0 ≤ lo) (hl1 : lo ≤ 18446744073709551615) (hy : y ≤ 4611686018427387904) :
  Calls Tryz.prog 178 #[.int .u64 0, .int .u64 lo, .int .u64 y] w fun e w' => e = .returned (.tuple #[.int .u64 (lo / y), .int .u64 (lo % y)]) ∧ Below w.heap.size w w' := by
 have hy0 : (y == 0) = false := by simp; omega
 go_enter Tryz.func178, Tryz.ntmps178
 go_wp2_with fail
 go_quiet (fail)
 go_wp2_with fail
 go_ret2
 exact ⟨rfl, bly⟩
theorem div64_ex (hi lo c : Int) (h0 : 0 ≤ hi) (h1 : hi < c) (hl0 : 0 ≤ lo) (hl1 : lo ≤ 18446744073709551615) (hc : c ≤ 4611686018427387904) :
  ∃ q r : Int, 0 ≤ q ∧ q ≤ 18446744073709551615 ∧ 0 ≤ r ∧ r < c ∧ Hid (hi * 18446744073709551616 + lo = q * c + r) ∧
   ∀ w, Calls Tryz.prog 178 #[.int .u64 hi, .int .u64 lo, .int .u64 c] w fun e w' => e = .returned (.tuple #[.int .u64 q, .int .u64 r]) ∧ Below w.heap.size w w' := by
 refine ⟨(hi * 18446744073709551616 + lo) / c, (hi * 18446744073709551616 + lo) % c, Int.ediv_nonneg (by omega) (by omega), ?_, Int.emod_nonneg _ (by omega), Int.emod_lt_of_pos _ (by omega), ?_, fun w => ?_⟩
 · refine Int.le_of_lt_add_one ((Int.ediv_lt_iff_lt_mul (by omega)).2 ?_)
   have : (18446744073709551615 + 1 : Int) * c = c * 18446744073709551616 := Int.mul_comm _ _
   omega
 · show _ = _
   have := Int.mul_ediv_add_emod (hi * 18446744073709551616 + lo) c
   rw [Int.mul_comm c] at this; exact this.symm
 · by_cases h : hi = 0
   · subst h
     have e : (0 * 18446744073709551616 + lo) = lo := by omega
     rw [e]; exact div64_zero lo c w (by omega) hl0 hl1 hc
   · exact div64_any hi lo c w (by omega) h1 hl0 hl1 hc
theorem size_any (a : Int) (w : World) (ha : -4611686018427387904 ≤ a ∧ a ≤ 4611686018427387904) :
  Calls Tryz.prog 176 #[.int .i64 a] w fun e w' => e = .returned (.tuple #[.int .u64 (if a < 0 then -a else a), .bool (decide (a < 0))]) ∧ w = w' := by
 by_cases h : a < 0
 · rw [if_pos h, decide_eq_true h]
   have e : IntKind.u64.wrap (-IntKind.u64.wrap a) = -a := by
    have wr : ∀ z : Int, IntKind.u64.wrap z = z % 18446744073709551616 := fun z => by simp [IntKind.wrap, IntKind.bits, IntKind.signed]
    rw [wr, wr]; omega
   go_enter Tryz.func176, Tryz.ntmps176
   go_wp2_with fail
   go_ret2
   exact ⟨by first | rfl | (rw [e]), rfl⟩
 · rw [if_neg h, decide_eq_false h]
   go_enter Tryz.func176, Tryz.ntmps176
   go_wp2_with fail
   go_ret2
   exact ⟨rfl, rfl⟩
theorem mul64_ex (x y : Int) (hx : 0 ≤ x ∧ x ≤ 4611686018427387904) (hy : 0 ≤ y ∧ y ≤ 4611686018427387904) :
  ∃ hi lo : Int, 0 ≤ hi ∧ hi ≤ 4611686018427387904 ∧ 0 ≤ lo ∧ lo ≤ 18446744073709551615 ∧ Hid (x * y = hi * 18446744073709551616 + lo) ∧
   ∀ w, Calls Tryz.prog 177 #[.int .u64 x, .int .u64 y] w fun e w' => e = .returned (.tuple #[.int .u64 hi, .int .u64 lo]) ∧ w = w' := by
 obtain ⟨X, rfl⟩ := Int.eq_ofNat_of_zero_le hx.1
 obtain ⟨Y, rfl⟩ := Int.eq_ofNat_of_zero_le hy.1
 have hb : X * Y ≤ 4611686018427387904 * 4611686018427387904 := Nat.mul_le_mul (by omega) (by omega)
 have e : (X : Int) * Y = ((X * Y : Nat) : Int) := by simp
 refine ⟨_, _, ?_, ?_, ?_, ?_, ?_, fun w => (Tryz.bits_Mul64 X Y (by omega) (by omega) w).mono fun _ _ h => ⟨h.1, h.2.symm⟩⟩
 · omega
 · omega
 · omega
 · omega
 · show _ = _; rw [e]; omega
def divS (a b c : Int) : Int × Int × Int := if amt (a * b / c) then (a * b / c, a * b % c, 0) else (0, 0, 2)
@[reducible] def tr (p : Int × Int × Int) : Value := .tuple #[.int .i64 p.1, .int .i64 p.2.1, .int .i64 p.2.2]
theorem ret_tr {a b c : Int} {p : Int × Int × Int} (h : p = (a, b, c)) : Ending.returned (.tuple #[.int .i64 a, .int .i64 b, .int .i64 c]) = .returned (tr p) := by rw [h]
theorem div_pos_ {p q r c : Int} (h : p = q * c + r) (h0 : 0 ≤ r) (h1 : r < c) : p / c = q ∧ p % c = r := by
 have hc : 0 < c := by omega
 have a := (Int.le_ediv_iff_mul_le hc).2 (show q * c ≤ p by omega)
 have b := (Int.ediv_lt_iff_lt_mul (a := p) (b := q + 1) hc).2 (by rw [Int.add_mul]; omega)
 have e : p / c = q := by omega
 refine ⟨e, ?_⟩
 have := Int.mul_ediv_add_emod p c
 rw [e, Int.mul_comm] at this; omega
theorem div_neg_zero {p q c : Int} (h : -p = q * c) (hc : 0 < c) : p / c = -q ∧ p % c = 0 :=
 div_pos_ (by rw [Int.neg_mul]; omega) (by omega) hc
theorem div_neg_rest {p q r c : Int} (h : -p = q * c + r) (h0 : 0 < r) (h1 : r < c) : p / c = -(q + 1) ∧ p % c = c - r :=
 div_pos_ (by rw [Int.neg_mul, Int.add_mul]; omega) (by omega) (by omega)
theorem div_far {p c hi lo : Int} (hc : 1 ≤ c) (h : p = hi * 18446744073709551616 + lo ∨ -p = hi * 18446744073709551616 + lo) (h0 : 0 ≤ lo) (hi1 : c ≤ hi) : ¬ amt (p / c) = true := by
 rcases h with h | h
 · have a := (Int.le_ediv_iff_mul_le (a := 18446744073709551616) (b := p) (show 0 < c by omega)).2 (by rw [Int.mul_comm]; omega)
   simp [amt]; omega
 · have a := (Int.ediv_lt_iff_lt_mul (a := p) (b := -4611686018427387904) (show 0 < c by omega)).2 (by
     have : (-4611686018427387904 : Int) * c = -(c * 4611686018427387904) := by rw [Int.mul_comm]; omega
     omega)
   simp [amt]; omega
theorem sizes_ex (a b : Int) (ha : -4611686018427387904 ≤ a ∧ a ≤ 4611686018427387904) (hb : -4611686018427387904 ≤ b ∧ b ≤ 4611686018427387904) :
  ∃ (x y : Int) (n m : Bool), (0 ≤ x ∧ x ≤ 4611686018427387904) ∧ (0 ≤ y ∧ y ≤ 4611686018427387904) ∧
   Hid ((∀ w, Calls Tryz.prog 176 #[.int .i64 a] w fun e w' => e = .returned (.tuple #[.int .u64 x, .bool n]) ∧ w = w') ∧
   (∀ w, Calls Tryz.prog 176 #[.int .i64 b] w fun e w' => e = .returned (.tuple #[.int .u64 y, .bool m]) ∧ w = w') ∧
   (((n != m) = true ∧ -(a * b) = x * y) ∨ ((n != m) = false ∧ a * b = x * y))) := by
 refine ⟨if a < 0 then -a else a, if b < 0 then -b else b, decide (a < 0), decide (b < 0), by split <;> omega, by split <;> omega, fun w => size_any a w ha, fun w => size_any b w hb, ?_⟩
 by_cases h : a < 0 <;> by_cases g : b < 0 <;> simp [h, g, Int.neg_mul, Int.mul_neg]
def fine (a b c : Int) : Prop := 0 ≤ a * b ∨ -(a * b) ≤ c * 18446744073709551615 ∨ c * 18446744073709551616 ≤ -(a * b)
theorem divided_any (a b c : Int) (w : World) (ha : -4611686018427387904 ≤ a ∧ a ≤ 4611686018427387904) (hb : -4611686018427387904 ≤ b ∧ b ≤ 4611686018427387904) (hc0 : 1 ≤ c) (hc1 : c ≤ 4611686018427387904) (hf : fine a b c) :
  Calls Tryz.prog 141 #[.int .i64 a, .int .i64 b, .int .i64 c] w fun e w' => e = .returned (tr (divS a b c)) ∧ Below w.heap.size w w' := by
 obtain ⟨x, y, n, m, hx, hy, HH⟩ := sizes_ex a b ha hb
 obtain ⟨hi, lo, hh0, hh1, hl0, hl1, HP, hmul⟩ := mul64_ex x y hx hy
 have HF := hyd hf; clear hf
 have HM := hyd hmul; clear hmul
 by_cases hci : c ≤ hi
 · have H : Hid (divS a b c = (0, 0, 2)) := by
     show _ = _
     rw [divS, if_neg (div_far hc0 (hi := hi) (lo := lo) ?_ hl0 hci)]
     have := HP.out
     rcases HH.out.2.2 with ⟨_, h⟩ | ⟨_, h⟩ <;> omega
   go_enter Tryz.func141, Tryz.ntmps141
   go_wp2_with fail
   refine (HH.out.1 _).mono ?_; rintro e w1 ⟨rfl, rfl⟩
   go_wp2_with fail
   refine (HH.out.2.1 _).mono ?_; rintro e w1 ⟨rfl, rfl⟩
   go_wp2_with fail
   refine (HM.out _).mono ?_; rintro e w1 ⟨rfl, rfl⟩
   go_wp2_with fail
   go_ret3
   exact ⟨ret_tr H.out, Below.refl _ _⟩
 · obtain ⟨q, r, hq0, hq1, hr0, hr1, HQ, hdiv⟩ := div64_ex hi lo c hh0 (by omega) hl0 hl1 hc1
   have HD := hyd hdiv; clear hdiv
   rcases HH.out.2.2 with ⟨hs, hp⟩ | ⟨hs, hp⟩
   · have hnp : -(a * b) = q * c + r := by have h1 := HQ.out; have h2 := HP.out; omega
     by_cases hrz : r = 0
     · subst hrz
       obtain ⟨e1, e2⟩ := div_neg_zero (show -(a * b) = q * c by omega) (show 0 < c by omega)
       by_cases hbig : 4611686018427387904 < q
       · have H : Hid (divS a b c = (0, 0, 2)) := by
           show _ = _; rw [divS, if_neg]; rw [e1]; simp [amt]; omega
         cases n <;> cases m <;> (try (exact absurd hs (by decide)))
         all_goals
          go_enter Tryz.func141, Tryz.ntmps141
          go_wp2_with fail
          refine (HH.out.1 _).mono ?_; rintro e w1 ⟨rfl, rfl⟩
          go_wp2_with fail
          refine (HH.out.2.1 _).mono ?_; rintro e w1 ⟨rfl, rfl⟩
          go_wp2_with fail
          refine (HM.out _).mono ?_; rintro e w1 ⟨rfl, rfl⟩
          clear hnp hp e1 e2 hs
          go_wp2_with fail
          refine (HD.out _).mono ?_; rintro e w1 ⟨rfl, hw1⟩; obtain ⟨hc1, hf1⟩ := bcell hw1; have hz1 := hw1.size; (try simp only [szA, szS, szD, size_drewN, Nat.add_one_le_iff] at hz1); (try have hy1 : w.heap.size < w1.heap.size := by omega); (try have hx1 : w.heap.size + 1 < w1.heap.size := by omega); have HW1 := hyd hw1; clear hw1
          go_wp2_with fail
          go_ret3
          exact ⟨ret_tr H.out, bly⟩
       · have H : Hid (divS a b c = (-q, 0, 0)) := by
           show _ = _; rw [divS, if_pos (by rw [e1]; simp [amt]; omega), e1, e2]
         cases n <;> cases m <;> (try (exact absurd hs (by decide)))
         all_goals
          go_enter Tryz.func141, Tryz.ntmps141
          go_wp2_with fail
          refine (HH.out.1 _).mono ?_; rintro e w1 ⟨rfl, rfl⟩
          go_wp2_with fail
          refine (HH.out.2.1 _).mono ?_; rintro e w1 ⟨rfl, rfl⟩
          go_wp2_with fail
          refine (HM.out _).mono ?_; rintro e w1 ⟨rfl, rfl⟩
          clear hnp hp e1 e2 hs
          go_wp2_with fail
          refine (HD.out _).mono ?_; rintro e w1 ⟨rfl, hw1⟩; obtain ⟨hc1, hf1⟩ := bcell hw1; have hz1 := hw1.size; (try simp only [szA, szS, szD, size_drewN, Nat.add_one_le_iff] at hz1); (try have hy1 : w.heap.size < w1.heap.size := by omega); (try have hx1 : w.heap.size + 1 < w1.heap.size := by omega); have HW1 := hyd hw1; clear hw1
          go_wp2_with fail
          go_ret3
          exact ⟨ret_tr H.out, bly⟩
     · obtain ⟨e1, e2⟩ := div_neg_rest hnp (show 0 < r by omega) hr1
       have hqf : q ≤ 18446744073709551614 := by
        have hf := HF.out
        unfold fine at hf
        rcases Int.lt_or_le 18446744073709551614 q with h | h
        · have hq : q = 18446744073709551615 := by omega
          subst hq
          have : (18446744073709551615 : Int) * c = c * 18446744073709551615 := Int.mul_comm _ _
          omega
        · exact h
       have hr2 : 0 < r := by omega
       by_cases hbig : 4611686018427387904 < q + 1
       · have H : Hid (divS a b c = (0, 0, 2)) := by
           show _ = _; rw [divS, if_neg]; rw [e1]; simp [amt]; omega
         cases n <;> cases m <;> (try (exact absurd hs (by decide)))
         all_goals
          go_enter Tryz.func141, Tryz.ntmps141
          go_wp2_with fail
          refine (HH.out.1 _).mono ?_; rintro e w1 ⟨rfl, rfl⟩
          go_wp2_with fail
          refine (HH.out.2.1 _).mono ?_; rintro e w1 ⟨rfl, rfl⟩
          go_wp2_with fail
          refine (HM.out _).mono ?_; rintro e w1 ⟨rfl, rfl⟩
          clear hnp hp e1 e2 hs hrz
          go_wp2_with fail
          refine (HD.out _).mono ?_; rintro e w1 ⟨rfl, hw1⟩; obtain ⟨hc1, hf1⟩ := bcell hw1; have hz1 := hw1.size; (try simp only [szA, szS, szD, size_drewN, Nat.add_one_le_iff] at hz1); (try have hy1 : w.heap.size < w1.heap.size := by omega); (try have hx1 : w.heap.size + 1 < w1.heap.size := by omega); have HW1 := hyd hw1; clear hw1
          go_wp2_with fail
          go_ret3
          exact ⟨ret_tr H.out, bly⟩
       · have H : Hid (divS a b c = (-(q + 1), c - r, 0)) := by
           show _ = _; rw [divS, if_pos (by rw [e1]; simp [amt]; omega), e1, e2]
         cases n <;> cases m <;> (try (exact absurd hs (by decide)))
         all_goals
          go_enter Tryz.func141, Tryz.ntmps141
          go_wp2_with fail
          refine (HH.out.1 _).mono ?_; rintro e w1 ⟨rfl, rfl⟩
          go_wp2_with fail
          refine (HH.out.2.1 _).mono ?_; rintro e w1 ⟨rfl, rfl⟩
          go_wp2_with fail
          refine (HM.out _).mono ?_; rintro e w1 ⟨rfl, rfl⟩
          clear hnp hp e1 e2 hs hrz
          go_wp2_with fail
          refine (HD.out _).mono ?_; rintro e w1 ⟨rfl, hw1⟩; obtain ⟨hc1, hf1⟩ := bcell hw1; have hz1 := hw1.size; (try simp only [szA, szS, szD, size_drewN, Nat.add_one_le_iff] at hz1); (try have hy1 : w.heap.size < w1.heap.size := by omega); (try have hx1 : w.heap.size + 1 < w1.heap.size := by omega); have HW1 := hyd hw1; clear hw1
          go_wp2_with fail
          go_ret3
          exact ⟨ret_tr H.out, bly⟩
   · have hnp : a * b = q * c + r := by have h1 := HQ.out; have h2 := HP.out; omega
     obtain ⟨e1, e2⟩ := div_pos_ hnp hr0 hr1
     by_cases hbig : 4611686018427387904 < q
     · have H : Hid (divS a b c = (0, 0, 2)) := by
         show _ = _; rw [divS, if_neg]; rw [e1]; simp [amt]; omega
       cases n <;> cases m <;> (try (exact absurd hs (by decide)))
       all_goals
        go_enter Tryz.func141, Tryz.ntmps141
        go_wp2_with fail
        refine (HH.out.1 _).mono ?_; rintro e w1 ⟨rfl, rfl⟩
        go_wp2_with fail
        refine (HH.out.2.1 _).mono ?_; rintro e w1 ⟨rfl, rfl⟩
        go_wp2_with fail
        refine (HM.out _).mono ?_; rintro e w1 ⟨rfl, rfl⟩
        clear hnp hp e1 e2 hs
        go_wp2_with fail
        refine (HD.out _).mono ?_; rintro e w1 ⟨rfl, hw1⟩; obtain ⟨hc1, hf1⟩ := bcell hw1; have hz1 := hw1.size; (try simp only [szA, szS, szD, size_drewN, Nat.add_one_le_iff] at hz1); (try have hy1 : w.heap.size < w1.heap.size := by omega); (try have hx1 : w.heap.size + 1 < w1.heap.size := by omega); have HW1 := hyd hw1; clear hw1
        go_wp2_with fail
        go_ret3
        exact ⟨ret_tr H.out, bly⟩
     · have H : Hid (divS a b c = (q, r, 0)) := by
         show _ = _; rw [divS, if_pos (by rw [e1]; simp [amt]; omega), e1, e2]
       cases n <;> cases m <;> (try (exact absurd hs (by decide)))
       all_goals
        go_enter Tryz.func141, Tryz.ntmps141
        go_wp2_with fail
        refine (HH.out.1 _).mono ?_; rintro e w1 ⟨rfl, rfl⟩
        go_wp2_with fail
        refine (HH.out.2.1 _).mono ?_; rintro e w1 ⟨rfl, rfl⟩
        go_wp2_with fail
        refine (HM.out _).mono ?_; rintro e w1 ⟨rfl, rfl⟩
        clear hnp hp e1 e2 hs
        go_wp2_with fail
        refine (HD.out _).mono ?_; rintro e w1 ⟨rfl, hw1⟩; obtain ⟨hc1, hf1⟩ := bcell hw1; have hz1 := hw1.size; (try simp only [szA, szS, szD, size_drewN, Nat.add_one_le_iff] at hz1); (try have hy1 : w.heap.size < w1.heap.size := by omega); (try have hx1 : w.heap.size + 1 < w1.heap.size := by omega); have HW1 := hyd hw1; clear hw1
        go_wp2_with fail
        go_ret3
        exact ⟨ret_tr H.out, bly⟩
def mulDivS (a b c : Int) : Int × Int := if (amt a && (amt b && amt c)) && decide (1 ≤ c) then told (a * b / c) else (0, 1)
theorem mulDiv_any (a b c : Int) (w : World) (hf : fine a b c) :
  Calls Tryz.prog 91 #[.int .i64 a, .int .i64 b, .int .i64 c] w fun e w' => e = .returned (pr (mulDivS a b c)) ∧ Below w.heap.size w w' := by
 by_cases h : (amt a && (amt b && amt c)) = true
 · have h0 : amt a = true ∧ amt b = true ∧ amt c = true := by simpa using h
   have ha := amt_yes h0.1; have hb := amt_yes h0.2.1; have hc := amt_yes h0.2.2
   clear h0
   by_cases h1 : 1 ≤ c
   · have H : Hid ((divS a b c).1 = (mulDivS a b c).1 ∧ (divS a b c).2.2 = (mulDivS a b c).2) := by
       show _ ∧ _
       have e : mulDivS a b c = told (a * b / c) := by rw [mulDivS, if_pos (by simp at h; simp [h, h1])]
       rw [e]; unfold divS told; split <;> simp
     have HF := hyd hf; clear hf
     go_enter Tryz.func91, Tryz.ntmps91
     go_wp2_with fail
     refine (is3 a b c w).mono ?_; rintro e w1 ⟨rfl, rfl⟩
     rw [h]; clear h
     go_wp2_with fail
     refine (divided_any a b c _ ha hb h1 hc.2 HF.out).mono ?_; rintro e w1 ⟨rfl, hw1⟩; obtain ⟨hc1, hf1⟩ := bcell hw1; have hz1 := hw1.size; (try simp only [szA, szS, szD, size_drewN, Nat.add_one_le_iff] at hz1); (try have hy1 : w.heap.size < w1.heap.size := by omega); (try have hx1 : w.heap.size + 1 < w1.heap.size := by omega); have HW1 := hyd hw1; clear hw1
     go_wp2_with fail
     go_ret2
     exact ⟨ret_pr (by rw [H.out.1, H.out.2]), bly⟩
   · have H : Hid (mulDivS a b c = (0, 1)) := by show _ = _; rw [mulDivS, if_neg (by simp [h1])]
     go_enter Tryz.func91, Tryz.ntmps91
     go_wp2_with fail
     refine (is3 a b c w).mono ?_; rintro e w1 ⟨rfl, rfl⟩
     rw [h]; clear h
     go_wp2_with fail
     go_ret2
     exact ⟨ret_pr H.out, bly⟩
 · have H : Hid (mulDivS a b c = (0, 1)) := by show _ = _; rw [mulDivS, if_neg (by simp [h])]
   go_enter Tryz.func91, Tryz.ntmps91
   go_wp2_with fail
   refine (is3 a b c w).mono ?_; rintro e w1 ⟨rfl, rfl⟩
   rw [Bool.eq_false_iff.2 h]; clear h
   go_wp2_with fail
   go_ret2
   exact ⟨ret_pr H.out, bly⟩

end Go.Proofs.YtbjjgnaojoaoiaaGreat
