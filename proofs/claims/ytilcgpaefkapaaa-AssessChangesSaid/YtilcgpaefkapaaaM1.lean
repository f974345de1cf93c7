/- num's divided, MulDiv. -/
import Derived.Test.YtilcgpaefkapaaaM
namespace Go.Proofs.Ytilcgpaefkapaaa
open Go.RowKit Go
set_option linter.unusedVariables false
set_option linter.unusedSimpArgs false

theorem sizes_ex (a b : Int) (ha : -4611686018427387904 ≤ a ∧ a ≤ 4611686018427387904) (hb : -4611686018427387904 ≤ b ∧ b ≤ 4611686018427387904) :
    ∃ (x y : Int) (n m : Bool), (0 ≤ x ∧ x ≤ 4611686018427387904) ∧ (0 ≤ y ∧ y ≤ 4611686018427387904) ∧
      Hid ((∀ w, Calls Try.prog 57 #[.int .i64 a] w fun e w' => e = .returned (.tuple #[.int .u64 x, .bool n]) ∧ w = w') ∧
      (∀ w, Calls Try.prog 57 #[.int .i64 b] w fun e w' => e = .returned (.tuple #[.int .u64 y, .bool m]) ∧ w = w') ∧
      (((n != m) = true ∧ -(a * b) = x * y) ∨ ((n != m) = false ∧ a * b = x * y))) := by
  refine ⟨if a < 0 then -a else a, if b < 0 then -b else b, decide (a < 0), decide (b < 0), by split <;> omega, by split <;> omega, fun w => size_any a w ha, fun w => size_any b w hb, ?_⟩
  by_cases h : a < 0 <;> by_cases g : b < 0 <;> simp [h, g, Int.neg_mul, Int.mul_neg]

/-- Where the quotient's size would go round when it is rounded away from 0, nothing is said. -/
def fine (a b c : Int) : Prop := 0 ≤ a * b ∨ -(a * b) ≤ c * 18446744073709551615 ∨ c * 18446744073709551616 ≤ -(a * b)

set_option maxHeartbeats 800000 in
theorem divided_any (a b c : Int) (w : World) (ha : -4611686018427387904 ≤ a ∧ a ≤ 4611686018427387904) (hb : -4611686018427387904 ≤ b ∧ b ≤ 4611686018427387904) (hc0 : 1 ≤ c) (hc1 : c ≤ 4611686018427387904) (hf : fine a b c) :
    Calls Try.prog 48 #[.int .i64 a, .int .i64 b, .int .i64 c] w fun e w' => e = .returned (tr (divS a b c)) ∧ Below w.heap.size w w' := by
  obtain ⟨x, y, n, m, hx, hy, HH⟩ := sizes_ex a b ha hb
  obtain ⟨hi, lo, hh0, hh1, hl0, hl1, HP, hmul⟩ := mul64_ex x y hx hy
  have HF := Lib.hid hf; clear hf
  have HM := Lib.hid hmul; clear hmul
  by_cases hci : c ≤ hi
  · have H : Hid (divS a b c = (0, 0, 2)) := by
      show _ = _
      rw [divS, if_neg (div_far hc0 (hi := hi) (lo := lo) ?_ hl0 hci)]
      have := HP.out
      rcases HH.out.2.2 with ⟨_, h⟩ | ⟨_, h⟩ <;> omega
    go_enter Try.func48, Try.ntmps48
    go_wp2_with fail
    refine (HH.out.1 _).mono ?_; rintro e w1 ⟨rfl, rfl⟩
    go_wp2_with fail
    refine (HH.out.2.1 _).mono ?_; rintro e w1 ⟨rfl, rfl⟩
    go_wp2_with fail
    refine (HM.out _).mono ?_; rintro e w1 ⟨rfl, rfl⟩
    go_wp2_with fail
    go_ret3
    exact ⟨ret_tr H.out, Below.refl _ _⟩
  · obtain ⟨q, r, hq0, hq1, hr0, hr1, HQ, hdiv⟩ := div64_ex hi lo c hh0 (by omega) hl0 hl1 hc1
    have HD := Lib.hid hdiv; clear hdiv
    rcases HH.out.2.2 with ⟨hs, hp⟩ | ⟨hs, hp⟩
    · have hnp : -(a * b) = q * c + r := by have h1 := HQ.out; have h2 := HP.out; omega
      by_cases hrz : r = 0
      · subst hrz
        obtain ⟨e1, e2⟩ := div_neg_zero (show -(a * b) = q * c by omega) (show 0 < c by omega)
        by_cases hbig : 4611686018427387904 < q
        · have H : Hid (divS a b c = (0, 0, 2)) := by
            show _ = _; rw [divS, if_neg]; rw [e1]; simp [amt]; omega
          cases n <;> cases m <;> (try (exact absurd hs (by decide)))
          all_goals
            go_enter Try.func48, Try.ntmps48
            go_wp2_with fail
            refine (HH.out.1 _).mono ?_; rintro e w1 ⟨rfl, rfl⟩
            go_wp2_with fail
            refine (HH.out.2.1 _).mono ?_; rintro e w1 ⟨rfl, rfl⟩
            go_wp2_with fail
            refine (HM.out _).mono ?_; rintro e w1 ⟨rfl, rfl⟩
            clear hnp hp e1 e2 hs
            go_wp2_with fail
            refine (HD.out _).mono ?_; rintro e w1 ⟨rfl, hw1⟩; obtain ⟨hc1, hf1⟩ := bcell hw1; have hz1 := hw1.size; (try simp only [World.size_alloc, World.size_setCell, World.size_drew, size_drewN, Nat.add_one_le_iff] at hz1); (try have hy1 : w.heap.size < w1.heap.size := by omega); (try have hx1 : w.heap.size + 1 < w1.heap.size := by omega); have HW1 := Lib.hid hw1; clear hw1
            go_wp2_with fail
            go_ret3
            exact ⟨ret_tr H.out, (by repeat' (first | (with_reducible exact Below.refl _ _) | (with_reducible refine Below.alloc ?_ ?_ _) | (with_reducible refine below_drewN ?_ _) | (with_reducible refine Below.drew ?_) | (with_reducible refine Below.setCell ?_ ?_ _) | (with_reducible refine Below.trans ?_ (Below.mono HW0.out ?_)) | (with_reducible refine Below.trans ?_ (Below.mono HW1.out ?_)) | (with_reducible refine Below.trans ?_ (Below.mono HW2.out ?_)) | (with_reducible refine Below.trans ?_ (Below.mono HW3.out ?_)) | (with_reducible refine Below.trans ?_ (Below.mono HW4.out ?_)) | (with_reducible refine Below.trans ?_ (Below.mono HW5.out ?_)) | (with_reducible refine Below.trans ?_ (Below.mono HW6.out ?_)) | (with_reducible refine Below.trans ?_ (Below.mono HW7.out ?_)) | (with_reducible exact Nat.le_refl _) | omega | (simp only [World.size_alloc, World.size_setCell, World.size_drew, size_drewN]; omega) | (simp; done) | (simp; omega)))⟩
        · have H : Hid (divS a b c = (-q, 0, 0)) := by
            show _ = _; rw [divS, if_pos (by rw [e1]; simp [amt]; omega), e1, e2]
          cases n <;> cases m <;> (try (exact absurd hs (by decide)))
          all_goals
            go_enter Try.func48, Try.ntmps48
            go_wp2_with fail
            refine (HH.out.1 _).mono ?_; rintro e w1 ⟨rfl, rfl⟩
            go_wp2_with fail
            refine (HH.out.2.1 _).mono ?_; rintro e w1 ⟨rfl, rfl⟩
            go_wp2_with fail
            refine (HM.out _).mono ?_; rintro e w1 ⟨rfl, rfl⟩
            clear hnp hp e1 e2 hs
            go_wp2_with fail
            refine (HD.out _).mono ?_; rintro e w1 ⟨rfl, hw1⟩; obtain ⟨hc1, hf1⟩ := bcell hw1; have hz1 := hw1.size; (try simp only [World.size_alloc, World.size_setCell, World.size_drew, size_drewN, Nat.add_one_le_iff] at hz1); (try have hy1 : w.heap.size < w1.heap.size := by omega); (try have hx1 : w.heap.size + 1 < w1.heap.size := by omega); have HW1 := Lib.hid hw1; clear hw1
            go_wp2_with fail
            go_ret3
            exact ⟨ret_tr H.out, (by repeat' (first | (with_reducible exact Below.refl _ _) | (with_reducible refine Below.alloc ?_ ?_ _) | (with_reducible refine below_drewN ?_ _) | (with_reducible refine Below.drew ?_) | (with_reducible refine Below.setCell ?_ ?_ _) | (with_reducible refine Below.trans ?_ (Below.mono HW0.out ?_)) | (with_reducible refine Below.trans ?_ (Below.mono HW1.out ?_)) | (with_reducible refine Below.trans ?_ (Below.mono HW2.out ?_)) | (with_reducible refine Below.trans ?_ (Below.mono HW3.out ?_)) | (with_reducible refine Below.trans ?_ (Below.mono HW4.out ?_)) | (with_reducible refine Below.trans ?_ (Below.mono HW5.out ?_)) | (with_reducible refine Below.trans ?_ (Below.mono HW6.out ?_)) | (with_reducible refine Below.trans ?_ (Below.mono HW7.out ?_)) | (with_reducible exact Nat.le_refl _) | omega | (simp only [World.size_alloc, World.size_setCell, World.size_drew, size_drewN]; omega) | (simp; done) | (simp; omega)))⟩
      · obtain ⟨e1, e2⟩ := div_neg_rest hnp (show 0 < r by omega) hr1
        have hqf : q ≤ 18446744073709551614 := by
          have hf := HF.out
          unfold fine at hf
          rcases Int.lt_or_le 18446744073709551614 q with h | h
          · have hq : q = 18446744073709551615 := by omega
            subst hq
            have : (18446744073709551615 : Int) * c = c * 18446744073709551615 := Int.mul_comm _ _
            omega
          · exact h
        have hr2 : 0 < r := by omega
        by_cases hbig : 4611686018427387904 < q + 1
        · have H : Hid (divS a b c = (0, 0, 2)) := by
            show _ = _; rw [divS, if_neg]; rw [e1]; simp [amt]; omega
          cases n <;> cases m <;> (try (exact absurd hs (by decide)))
          all_goals
            go_enter Try.func48, Try.ntmps48
            go_wp2_with fail
            refine (HH.out.1 _).mono ?_; rintro e w1 ⟨rfl, rfl⟩
            go_wp2_with fail
            refine (HH.out.2.1 _).mono ?_; rintro e w1 ⟨rfl, rfl⟩
            go_wp2_with fail
            refine (HM.out _).mono ?_; rintro e w1 ⟨rfl, rfl⟩
            clear hnp hp e1 e2 hs hrz
            go_wp2_with fail
            refine (HD.out _).mono ?_; rintro e w1 ⟨rfl, hw1⟩; obtain ⟨hc1, hf1⟩ := bcell hw1; have hz1 := hw1.size; (try simp only [World.size_alloc, World.size_setCell, World.size_drew, size_drewN, Nat.add_one_le_iff] at hz1); (try have hy1 : w.heap.size < w1.heap.size := by omega); (try have hx1 : w.heap.size + 1 < w1.heap.size := by omega); have HW1 := Lib.hid hw1; clear hw1
            go_wp2_with fail
            go_ret3
            exact ⟨ret_tr H.out, (by repeat' (first | (with_reducible exact Below.refl _ _) | (with_reducible refine Below.alloc ?_ ?_ _) | (with_reducible refine below_drewN ?_ _) | (with_reducible refine Below.drew ?_) | (with_reducible refine Below.setCell ?_ ?_ _) | (with_reducible refine Below.trans ?_ (Below.mono HW0.out ?_)) | (with_reducible refine Below.trans ?_ (Below.mono HW1.out ?_)) | (with_reducible refine Below.trans ?_ (Below.mono HW2.out ?_)) | (with_reducible refine Below.trans ?_ (Below.mono HW3.out ?_)) | (with_reducible refine Below.trans ?_ (Below.mono HW4.out ?_)) | (with_reducible refine Below.trans ?_ (Below.mono HW5.out ?_)) | (with_reducible refine Below.trans ?_ (Below.mono HW6.out ?_)) | (with_reducible refine Below.trans ?_ (Below.mono HW7.out ?_)) | (with_reducible exact Nat.le_refl _) | omega | (simp only [World.size_alloc, World.size_setCell, World.size_drew, size_drewN]; omega) | (simp; done) | (simp; omega)))⟩
        · have H : Hid (divS a b c = (-(q + 1), c - r, 0)) := by
            show _ = _; rw [divS, if_pos (by rw [e1]; simp [amt]; omega), e1, e2]
          cases n <;> cases m <;> (try (exact absurd hs (by decide)))
          all_goals
            go_enter Try.func48, Try.ntmps48
            go_wp2_with fail
            refine (HH.out.1 _).mono ?_; rintro e w1 ⟨rfl, rfl⟩
            go_wp2_with fail
            refine (HH.out.2.1 _).mono ?_; rintro e w1 ⟨rfl, rfl⟩
            go_wp2_with fail
            refine (HM.out _).mono ?_; rintro e w1 ⟨rfl, rfl⟩
            clear hnp hp e1 e2 hs hrz
            go_wp2_with fail
            refine (HD.out _).mono ?_; rintro e w1 ⟨rfl, hw1⟩; obtain ⟨hc1, hf1⟩ := bcell hw1; have hz1 := hw1.size; (try simp only [World.size_alloc, World.size_setCell, World.size_drew, size_drewN, Nat.add_one_le_iff] at hz1); (try have hy1 : w.heap.size < w1.heap.size := by omega); (try have hx1 : w.heap.size + 1 < w1.heap.size := by omega); have HW1 := Lib.hid hw1; clear hw1
            go_wp2_with fail
            go_ret3
            exact ⟨ret_tr H.out, (by repeat' (first | (with_reducible exact Below.refl _ _) | (with_reducible refine Below.alloc ?_ ?_ _) | (with_reducible refine below_drewN ?_ _) | (with_reducible refine Below.drew ?_) | (with_reducible refine Below.setCell ?_ ?_ _) | (with_reducible refine Below.trans ?_ (Below.mono HW0.out ?_)) | (with_reducible refine Below.trans ?_ (Below.mono HW1.out ?_)) | (with_reducible refine Below.trans ?_ (Below.mono HW2.out ?_)) | (with_reducible refine Below.trans ?_ (Below.mono HW3.out ?_)) | (with_reducible refine Below.trans ?_ (Below.mono HW4.out ?_)) | (with_reducible refine Below.trans ?_ (Below.mono HW5.out ?_)) | (with_reducible refine Below.trans ?_ (Below.mono HW6.out ?_)) | (with_reducible refine Below.trans ?_ (Below.mono HW7.out ?_)) | (with_reducible exact Nat.le_refl _) | omega | (simp only [World.size_alloc, World.size_setCell, World.size_drew, size_drewN]; omega) | (simp; done) | (simp; omega)))⟩
    · have hnp : a * b = q * c + r := by have h1 := HQ.out; have h2 := HP.out; omega
      obtain ⟨e1, e2⟩ := div_pos_ hnp hr0 hr1
      by_cases hbig : 4611686018427387904 < q
      · have H : Hid (divS a b c = (0, 0, 2)) := by
          show _ = _; rw [divS, if_neg]; rw [e1]; simp [amt]; omega
        cases n <;> cases m <;> (try (exact absurd hs (by decide)))
        all_goals
          go_enter Try.func48, Try.ntmps48
          go_wp2_with fail
          refine (HH.out.1 _).mono ?_; rintro e w1 ⟨rfl, rfl⟩
          go_wp2_with fail
          refine (HH.out.2.1 _).mono ?_; rintro e w1 ⟨rfl, rfl⟩
          go_wp2_with fail
          refine (HM.out _).mono ?_; rintro e w1 ⟨rfl, rfl⟩
          clear hnp hp e1 e2 hs
          go_wp2_with fail
          refine (HD.out _).mono ?_; rintro e w1 ⟨rfl, hw1⟩; obtain ⟨hc1, hf1⟩ := bcell hw1; have hz1 := hw1.size; (try simp only [World.size_alloc, World.size_setCell, World.size_drew, size_drewN, Nat.add_one_le_iff] at hz1); (try have hy1 : w.heap.size < w1.heap.size := by omega); (try have hx1 : w.heap.size + 1 < w1.heap.size := by omega); have HW1 := Lib.hid hw1; clear hw1
          go_wp2_with fail
          go_ret3
          exact ⟨ret_tr H.out, (by repeat' (first | (with_reducible exact Below.refl _ _) | (with_reducible refine Below.alloc ?_ ?_ _) | (with_reducible refine below_drewN ?_ _) | (with_reducible refine Below.drew ?_) | (with_reducible refine Below.setCell ?_ ?_ _) | (with_reducible refine Below.trans ?_ (Below.mono HW0.out ?_)) | (with_reducible refine Below.trans ?_ (Below.mono HW1.out ?_)) | (with_reducible refine Below.trans ?_ (Below.mono HW2.out ?_)) | (with_reducible refine Below.trans ?_ (Below.mono HW3.out ?_)) | (with_reducible refine Below.trans ?_ (Below.mono HW4.out ?_)) | (with_reducible refine Below.trans ?_ (Below.mono HW5.out ?_)) | (with_reducible refine Below.trans ?_ (Below.mono HW6.out ?_)) | (with_reducible refine Below.trans ?_ (Below.mono HW7.out ?_)) | (with_reducible exact Nat.le_refl _) | omega | (simp only [World.size_alloc, World.size_setCell, World.size_drew, size_drewN]; omega) | (simp; done) | (simp; omega)))⟩
      · have H : Hid (divS a b c = (q, r, 0)) := by
          show _ = _; rw [divS, if_pos (by rw [e1]; simp [amt]; omega), e1, e2]
        cases n <;> cases m <;> (try (exact absurd hs (by decide)))
        all_goals
          go_enter Try.func48, Try.ntmps48
          go_wp2_with fail
          refine (HH.out.1 _).mono ?_; rintro e w1 ⟨rfl, rfl⟩
          go_wp2_with fail
          refine (HH.out.2.1 _).mono ?_; rintro e w1 ⟨rfl, rfl⟩
          go_wp2_with fail
          refine (HM.out _).mono ?_; rintro e w1 ⟨rfl, rfl⟩
          clear hnp hp e1 e2 hs
          go_wp2_with fail
          refine (HD.out _).mono ?_; rintro e w1 ⟨rfl, hw1⟩; obtain ⟨hc1, hf1⟩ := bcell hw1; have hz1 := hw1.size; (try simp only [World.size_alloc, World.size_setCell, World.size_drew, size_drewN, Nat.add_one_le_iff] at hz1); (try have hy1 : w.heap.size < w1.heap.size := by omega); (try have hx1 : w.heap.size + 1 < w1.heap.size := by omega); have HW1 := Lib.hid hw1; clear hw1
          go_wp2_with fail
          go_ret3
          exact ⟨ret_tr H.out, (by repeat' (first | (with_reducible exact Below.refl _ _) | (with_reducible refine Below.alloc ?_ ?_ _) | (with_reducible refine below_drewN ?_ _) | (with_reducible refine Below.drew ?_) | (with_reducible refine Below.setCell ?_ ?_ _) | (with_reducible refine Below.trans ?_ (Below.mono HW0.out ?_)) | (with_reducible refine Below.trans ?_ (Below.mono HW1.out ?_)) | (with_reducible refine Below.trans ?_ (Below.mono HW2.out ?_)) | (with_reducible refine Below.trans ?_ (Below.mono HW3.out ?_)) | (with_reducible refine Below.trans ?_ (Below.mono HW4.out ?_)) | (with_reducible refine Below.trans ?_ (Below.mono HW5.out ?_)) | (with_reducible refine Below.trans ?_ (Below.mono HW6.out ?_)) | (with_reducible refine Below.trans ?_ (Below.mono HW7.out ?_)) | (with_reducible exact Nat.le_refl _) | omega | (simp only [World.size_alloc, World.size_setCell, World.size_drew, size_drewN]; omega) | (simp; done) | (simp; omega)))⟩

def mulDivS (a b c : Int) : Int × Int := if (amt a && (amt b && amt c)) && decide (1 ≤ c) then told (a * b / c) else (0, 1)
theorem mulDiv_any (a b c : Int) (w : World) (hf : fine a b c) :
    Calls Try.prog 27 #[.int .i64 a, .int .i64 b, .int .i64 c] w fun e w' => e = .returned (pr (mulDivS a b c)) ∧ Below w.heap.size w w' := by
  by_cases h : (amt a && (amt b && amt c)) = true
  · have h0 : amt a = true ∧ amt b = true ∧ amt c = true := by simpa using h
    have ha := amt_yes h0.1; have hb := amt_yes h0.2.1; have hc := amt_yes h0.2.2
    clear h0
    by_cases h1 : 1 ≤ c
    · have H : Hid ((divS a b c).1 = (mulDivS a b c).1 ∧ (divS a b c).2.2 = (mulDivS a b c).2) := by
        show _ ∧ _
        have e : mulDivS a b c = told (a * b / c) := by rw [mulDivS, if_pos (by simp at h; simp [h, h1])]
        rw [e]; unfold divS told; split <;> simp
      have HF := Lib.hid hf; clear hf
      go_enter Try.func27, Try.ntmps27
      go_wp2_with fail
      refine (is3 a b c w).mono ?_; rintro e w1 ⟨rfl, rfl⟩
      rw [h]; clear h
      go_wp2_with fail
      refine (divided_any a b c _ ha hb h1 hc.2 HF.out).mono ?_; rintro e w1 ⟨rfl, hw1⟩; obtain ⟨hc1, hf1⟩ := bcell hw1; have hz1 := hw1.size; (try simp only [World.size_alloc, World.size_setCell, World.size_drew, size_drewN, Nat.add_one_le_iff] at hz1); (try have hy1 : w.heap.size < w1.heap.size := by omega); (try have hx1 : w.heap.size + 1 < w1.heap.size := by omega); have HW1 := Lib.hid hw1; clear hw1
      go_wp2_with fail
      go_ret2
      exact ⟨ret_pr (by rw [H.out.1, H.out.2]), (by repeat' (first | (with_reducible exact Below.refl _ _) | (with_reducible refine Below.alloc ?_ ?_ _) | (with_reducible refine below_drewN ?_ _) | (with_reducible refine Below.drew ?_) | (with_reducible refine Below.setCell ?_ ?_ _) | (with_reducible refine Below.trans ?_ (Below.mono HW0.out ?_)) | (with_reducible refine Below.trans ?_ (Below.mono HW1.out ?_)) | (with_reducible refine Below.trans ?_ (Below.mono HW2.out ?_)) | (with_reducible refine Below.trans ?_ (Below.mono HW3.out ?_)) | (with_reducible refine Below.trans ?_ (Below.mono HW4.out ?_)) | (with_reducible refine Below.trans ?_ (Below.mono HW5.out ?_)) | (with_reducible refine Below.trans ?_ (Below.mono HW6.out ?_)) | (with_reducible refine Below.trans ?_ (Below.mono HW7.out ?_)) | (with_reducible exact Nat.le_refl _) | omega | (simp only [World.size_alloc, World.size_setCell, World.size_drew, size_drewN]; omega) | (simp; done) | (simp; omega)))⟩
    · have H : Hid (mulDivS a b c = (0, 1)) := by show _ = _; rw [mulDivS, if_neg (by simp [h1])]
      go_enter Try.func27, Try.ntmps27
      go_wp2_with fail
      refine (is3 a b c w).mono ?_; rintro e w1 ⟨rfl, rfl⟩
      rw [h]; clear h
      go_wp2_with fail
      go_ret2
      exact ⟨ret_pr H.out, (by repeat' (first | (with_reducible exact Below.refl _ _) | (with_reducible refine Below.alloc ?_ ?_ _) | (with_reducible refine below_drewN ?_ _) | (with_reducible refine Below.drew ?_) | (with_reducible refine Below.setCell ?_ ?_ _) | (with_reducible refine Below.trans ?_ (Below.mono HW0.out ?_)) | (with_reducible refine Below.trans ?_ (Below.mono HW1.out ?_)) | (with_reducible refine Below.trans ?_ (Below.mono HW2.out ?_)) | (with_reducible refine Below.trans ?_ (Below.mono HW3.out ?_)) | (with_reducible refine Below.trans ?_ (Below.mono HW4.out ?_)) | (with_reducible refine Below.trans ?_ (Below.mono HW5.out ?_)) | (with_reducible refine Below.trans ?_ (Below.mono HW6.out ?_)) | (with_reducible refine Below.trans ?_ (Below.mono HW7.out ?_)) | (with_reducible exact Nat.le_refl _) | omega | (simp only [World.size_alloc, World.size_setCell, World.size_drew, size_drewN]; omega) | (simp; done) | (simp; omega)))⟩
  · have H : Hid (mulDivS a b c = (0, 1)) := by show _ = _; rw [mulDivS, if_neg (by simp [h])]
    go_enter Try.func27, Try.ntmps27
    go_wp2_with fail
    refine (is3 a b c w).mono ?_; rintro e w1 ⟨rfl, rfl⟩
    rw [Bool.eq_false_iff.2 h]; clear h
    go_wp2_with fail
    go_ret2
    exact ⟨ret_pr H.out, (by repeat' (first | (with_reducible exact Below.refl _ _) | (with_reducible refine Below.alloc ?_ ?_ _) | (with_reducible refine below_drewN ?_ _) | (with_reducible refine Below.drew ?_) | (with_reducible refine Below.setCell ?_ ?_ _) | (with_reducible refine Below.trans ?_ (Below.mono HW0.out ?_)) | (with_reducible refine Below.trans ?_ (Below.mono HW1.out ?_)) | (with_reducible refine Below.trans ?_ (Below.mono HW2.out ?_)) | (with_reducible refine Below.trans ?_ (Below.mono HW3.out ?_)) | (with_reducible refine Below.trans ?_ (Below.mono HW4.out ?_)) | (with_reducible refine Below.trans ?_ (Below.mono HW5.out ?_)) | (with_reducible refine Below.trans ?_ (Below.mono HW6.out ?_)) | (with_reducible refine Below.trans ?_ (Below.mono HW7.out ?_)) | (with_reducible exact Nat.le_refl _) | omega | (simp only [World.size_alloc, World.size_setCell, World.size_drew, size_drewN]; omega) | (simp; done) | (simp; omega)))⟩
end Go.Proofs.Ytilcgpaefkapaaa
