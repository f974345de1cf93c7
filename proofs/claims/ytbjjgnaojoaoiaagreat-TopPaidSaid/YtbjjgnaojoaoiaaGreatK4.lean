/- num's divided, MulDiv. -/
import Derived.Test.YtbjjgnaojoaoiaaGreatK3
import Derived.Deep.DeepCutAuto
import Derived.Deep.CutBlock
namespace Go.Proofs.YtbjjgnaojoaoiaaGreat
open Go.RowKit Go
set_option linter.unusedVariables false
set_option linter.unusedSimpArgs false

theorem sizes_ex (a b : Int) (ha : -4611686018427387904 ≤ a ∧ a ≤ 4611686018427387904) (hb : -4611686018427387904 ≤ b ∧ b ≤ 4611686018427387904) :
    ∃ (x y : Int) (n m : Bool), (0 ≤ x ∧ x ≤ 4611686018427387904) ∧ (0 ≤ y ∧ y ≤ 4611686018427387904) ∧
      Hid ((∀ w, Calls Tryz.prog 176 #[.int .i64 a] w fun e w' => e = .returned (.tuple #[.int .u64 x, .bool n]) ∧ w = w') ∧
      (∀ w, Calls Tryz.prog 176 #[.int .i64 b] w fun e w' => e = .returned (.tuple #[.int .u64 y, .bool m]) ∧ w = w') ∧
      (((n != m) = true ∧ -(a * b) = x * y) ∨ ((n != m) = false ∧ a * b = x * y))) := by
  refine ⟨if a < 0 then -a else a, if b < 0 then -b else b, decide (a < 0), decide (b < 0), by split <;> omega, by split <;> omega, fun w => size_any a w ha, fun w => size_any b w hb, ?_⟩
  by_cases h : a < 0 <;> by_cases g : b < 0 <;> simp [h, g, Int.neg_mul, Int.mul_neg]

/-- Where the quotient's size would go round when it is rounded away from 0, nothing is said. -/
def fine (a b c : Int) : Prop := 0 ≤ a * b ∨ -(a * b) ≤ c * 18446744073709551615 ∨ c * 18446744073709551616 ≤ -(a * b)

set_option maxHeartbeats 800000 in
set_option maxRecDepth 100000 in
theorem divided_any (a b c : Int) (w : World) (ha : -4611686018427387904 ≤ a ∧ a ≤ 4611686018427387904) (hb : -4611686018427387904 ≤ b ∧ b ≤ 4611686018427387904) (hc0 : 1 ≤ c) (hc1 : c ≤ 4611686018427387904) (hf : fine a b c) :
    Calls Tryz.prog 141 #[.int .i64 a, .int .i64 b, .int .i64 c] w fun e w' => e = .returned (tr (divS a b c)) ∧ Below w.heap.size w w' := by
  obtain ⟨x, y, n, m, hx, hy, HH⟩ := sizes_ex a b ha hb
  obtain ⟨hi, lo, hh0, hh1, hl0, hl1, HP, hmul⟩ := mul64_ex x y hx hy
  have HF := Lib.hid hf; clear hf
  have HM := Lib.hid hmul; clear hmul
  by_cases hci : c ≤ hi
  · have H : Hid (divS a b c = (0, 0, 2)) := by
      show _ = _
      rw [divS, if_neg (div_far hc0 (hi := hi) (lo := lo) ?_ hl0 hci)]
      have := HP.out
      rcases HH.out.2.2 with ⟨_, h⟩ | ⟨_, h⟩ <;> omega
    go_enter Tryz.func141, Tryz.ntmps141
    go_wp2_with fail
    refine (HH.out.1 _).mono ?_; rintro e w1 ⟨rfl, rfl⟩
    go_wp2_with fail
    refine (HH.out.2.1 _).mono ?_; rintro e w1 ⟨rfl, rfl⟩
    go_wp2_with fail
    refine (HM.out _).mono ?_; rintro e w1 ⟨rfl, rfl⟩
    go_wp2_with fail
    go_ret3
    exact ⟨ret_tr H.out, Below.refl _ _⟩
  · obtain ⟨q, r, hq0, hq1, hr0, hr1, HQ, hdiv⟩ := div64_ex hi lo c hh0 (by omega) hl0 hl1 hc1
    have HD := Lib.hid hdiv; clear hdiv
    rcases HH.out.2.2 with ⟨hs, hp⟩ | ⟨hs, hp⟩
    · have hnp : -(a * b) = q * c + r := by have h1 := HQ.out; have h2 := HP.out; omega
      by_cases hrz : r = 0
      · subst hrz
        obtain ⟨e1, e2⟩ := div_neg_zero (show -(a * b) = q * c by omega) (show 0 < c by omega)
        by_cases hbig : 4611686018427387904 < q
        · have H : Hid (divS a b c = (0, 0, 2)) := by
            show _ = _; rw [divS, if_neg]; rw [e1]; simp [amt]; omega
          cases n <;> cases m <;> (try (exact absurd hs (by decide)))
          all_goals
            go_enter Tryz.func141, Tryz.ntmps141
            go_wp2_with fail
            refine (HH.out.1 _).mono ?_; rintro e w1 ⟨rfl, rfl⟩
            go_wp2_with fail
            refine (HH.out.2.1 _).mono ?_; rintro e w1 ⟨rfl, rfl⟩
            go_wp2_with fail
            refine (HM.out _).mono ?_; rintro e w1 ⟨rfl, rfl⟩
            clear hnp hp e1 e2 hs
            go_wp2_with fail
            refine (HD.out _).mono ?_; rintro e w1 ⟨rfl, hw1⟩; obtain ⟨hc1, hf1⟩ := bcell hw1; have hz1 := hw1.size; (try simp only [World.size_alloc, World.size_setCell, World.size_drew, size_drewN, Nat.add_one_le_iff] at hz1); (try have hy1 : w.heap.size < w1.heap.size := by omega); (try have hx1 : w.heap.size + 1 < w1.heap.size := by omega); have HW1 := Lib.hid hw1; clear hw1
            go_wp2_with fail
            go_ret3
            exact ⟨ret_tr H.out, (by repeat' (first | (with_reducible exact Below.refl _ _) | (with_reducible refine Below.alloc ?_ ?_ _) | (with_reducible refine below_drewN ?_ _) | (with_reducible refine Below.drew ?_) | (with_reducible refine Below.setCell ?_ ?_ _) | (with_reducible refine Below.trans ?_ (Below.mono HW0.out ?_)) | (with_reducible refine Below.trans ?_ (Below.mono HW1.out ?_)) | (with_reducible refine Below.trans ?_ (Below.mono HW2.out ?_)) | (with_reducible refine Below.trans ?_ (Below.mono HW3.out ?_)) | (with_reducible refine Below.trans ?_ (Below.mono HW4.out ?_)) | (with_reducible refine Below.trans ?_ (Below.mono HW5.out ?_)) | (with_reducible refine Below.trans ?_ (Below.mono HW6.out ?_)) | (with_reducible refine Below.trans ?_ (Below.mono HW7.out ?_)) | (with_reducible exact Nat.le_refl _) | omega | (simp only [World.size_alloc, World.size_setCell, World.size_drew, size_drewN]; omega) | (simp; done) | (simp; omega)))⟩
        · have H : Hid (divS a b c = (-q, 0, 0)) := by
            show _ = _; rw [divS, if_pos (by rw [e1]; simp [amt]; omega), e1, e2]
          cases n <;> cases m <;> (try (exact absurd hs (by decide)))
          all_goals
            go_enter Tryz.func141, Tryz.ntmps141
            go_wp2_with fail
            refine (HH.out.1 _).mono ?_; rintro e w1 ⟨rfl, rfl⟩
            go_wp2_with fail
            refine (HH.out.2.1 _).mono ?_; rintro e w1 ⟨rfl, rfl⟩
            go_wp2_with fail
            refine (HM.out _).mono ?_; rintro e w1 ⟨rfl, rfl⟩
            clear hnp hp e1 e2 hs
            go_wp2_with fail
            refine (HD.out _).mono ?_; rintro e w1 ⟨rfl, hw1⟩; obtain ⟨hc1, hf1⟩ := bcell hw1; have hz1 := hw1.size; (try simp only [World.size_alloc, World.size_setCell, World.size_drew, size_drewN, Nat.add_one_le_iff] at hz1); (try have hy1 : w.heap.size < w1.heap.size := by omega); (try have hx1 : w.heap.size + 1 < w1.heap.size := by omega); have HW1 := Lib.hid hw1; clear hw1
            go_wp2_with fail
            go_ret3
            exact ⟨ret_tr H.out, (by repeat' (first | (with_reducible exact Below.refl _ _) | (with_reducible refine Below.alloc ?_ ?_ _) | (with_reducible refine below_drewN ?_ _) | (with_reducible refine Below.drew ?_) | (with_reducible refine Below.setCell ?_ ?_ _) | (with_reducible refine Below.trans ?_ (Below.mono HW0.out ?_)) | (with_reducible refine Below.trans ?_ (Below.mono HW1.out ?_)) | (with_reducible refine Below.trans ?_ (Below.mono HW2.out ?_)) | (with_reducible refine Below.trans ?_ (Below.mono HW3.out ?_)) | (with_reducible refine Below.trans ?_ (Below.mono HW4.out ?_)) | (with_reducible refine Below.trans ?_ (Below.mono HW5.out ?_)) | (with_reducible refine Below.trans ?_ (Below.mono HW6.out ?_)) | (with_reducible refine Below.trans ?_ (Below.mono HW7.out ?_)) | (with_reducible exact Nat.le_refl _) | omega | (simp only [World.size_alloc, World.size_setCell, World.size_drew, size_drewN]; omega) | (simp; done) | (simp; omega)))⟩
      · obtain ⟨e1, e2⟩ := div_neg_rest hnp (show 0 < r by omega) hr1
        have hqf : q ≤ 18446744073709551614 := by
          have hf := HF.out
          unfold fine at hf
          rcases Int.lt_or_le 18446744073709551614 q with h | h
          · have hq : q = 18446744073709551615 := by omega
            subst hq
            have : (18446744073709551615 : Int) * c = c * 18446744073709551615 := Int.mul_comm _ _
            omega
          · exact h
        have hr2 : 0 < r := by omega
        by_cases hbig : 4611686018427387904 < q + 1
        · have H : Hid (divS a b c = (0, 0, 2)) := by
            show _ = _; rw [divS, if_neg]; rw [e1]; simp [amt]; omega
          cases n <;> cases m <;> (try (exact absurd hs (by decide)))
          all_goals
            go_enter Tryz.func141, Tryz.ntmps141
            go_wp2_with fail
            refine (HH.out.1 _).mono ?_; rintro e w1 ⟨rfl, rfl⟩
            go_wp2_with fail
            refine (HH.out.2.1 _).mono ?_; rintro e w1 ⟨rfl, rfl⟩
            go_wp2_with fail
            refine (HM.out _).mono ?_; rintro e w1 ⟨rfl, rfl⟩
            clear hnp hp e1 e2 hs hrz
            go_wp2_with fail
            refine (HD.out _).mono ?_; rintro e w1 ⟨rfl, hw1⟩; obtain ⟨hc1, hf1⟩ := bcell hw1; have hz1 := hw1.size; (try simp only [World.size_alloc, World.size_setCell, World.size_drew, size_drewN, Nat.add_one_le_iff] at hz1); (try have hy1 : w.heap.size < w1.heap.size := by omega); (try have hx1 : w.heap.size + 1 < w1.heap.size := by omega); have HW1 := Lib.hid hw1; clear hw1
            go_wp2_with fail
            go_ret3
            exact ⟨ret_tr H.out, (by repeat' (first | (with_reducible exact Below.refl _ _) | (with_reducible refine Below.alloc ?_ ?_ _) | (with_reducible refine below_drewN ?_ _) | (with_reducible refine Below.drew ?_) | (with_reducible refine Below.setCell ?_ ?_ _) | (with_reducible refine Below.trans ?_ (Below.mono HW0.out ?_)) | (with_reducible refine Below.trans ?_ (Below.mono HW1.out ?_)) | (with_reducible refine Below.trans ?_ (Below.mono HW2.out ?_)) | (with_reducible refine Below.trans ?_ (Below.mono HW3.out ?_)) | (with_reducible refine Below.trans ?_ (Below.mono HW4.out ?_)) | (with_reducible refine Below.trans ?_ (Below.mono HW5.out ?_)) | (with_reducible refine Below.trans ?_ (Below.mono HW6.out ?_)) | (with_reducible refine Below.trans ?_ (Below.mono HW7.out ?_)) | (with_reducible exact Nat.le_refl _) | omega | (simp only [World.size_alloc, World.size_setCell, World.size_drew, size_drewN]; omega) | (simp; done) | (simp; omega)))⟩
        · have H : Hid (divS a b c = (-(q + 1), c - r, 0)) := by
            show _ = _; rw [divS, if_pos (by rw [e1]; simp [amt]; omega), e1, e2]
          cases n <;> cases m <;> (try (exact absurd hs (by decide)))
          all_goals
            go_enter Tryz.func141, Tryz.ntmps141
            go_wp2_with fail
            refine (HH.out.1 _).mono ?_; rintro e w1 ⟨rfl, rfl⟩
            go_wp2_with fail
            refine (HH.out.2.1 _).mono ?_; rintro e w1 ⟨rfl, rfl⟩
            go_wp2_with fail
            refine (HM.out _).mono ?_; rintro e w1 ⟨rfl, rfl⟩
            clear hnp hp e1 e2 hs hrz
            go_wp2_with fail
            refine (HD.out _).mono ?_; rintro e w1 ⟨rfl, hw1⟩; obtain ⟨hc1, hf1⟩ := bcell hw1; have hz1 := hw1.size; (try simp only [World.size_alloc, World.size_setCell, World.size_drew, size_drewN, Nat.add_one_le_iff] at hz1); (try have hy1 : w.heap.size < w1.heap.size := by omega); (try have hx1 : w.heap.size + 1 < w1.heap.size := by omega); have HW1 := Lib.hid hw1; clear hw1
            go_wp2_with fail
            go_ret3
            exact ⟨ret_tr H.out, (by repeat' (first | (with_reducible exact Below.refl _ _) | (with_reducible refine Below.alloc ?_ ?_ _) | (with_reducible refine below_drewN ?_ _) | (with_reducible refine Below.drew ?_) | (with_reducible refine Below.setCell ?_ ?_ _) | (with_reducible refine Below.trans ?_ (Below.mono HW0.out ?_)) | (with_reducible refine Below.trans ?_ (Below.mono HW1.out ?_)) | (with_reducible refine Below.trans ?_ (Below.mono HW2.out ?_)) | (with_reducible refine Below.trans ?_ (Below.mono HW3.out ?_)) | (with_reducible refine Below.trans ?_ (Below.mono HW4.out ?_)) | (with_reducible refine Below.trans ?_ (Below.mono HW5.out ?_)) | (with_reducible refine Below.trans ?_ (Below.mono HW6.out ?_)) | (with_reducible refine Below.trans ?_ (Below.mono HW7.out ?_)) | (with_reducible exact Nat.le_refl _) | omega | (simp only [World.size_alloc, World.size_setCell, World.size_drew, size_drewN]; omega) | (simp; done) | (simp; omega)))⟩
    · have hnp : a * b = q * c + r := by have h1 := HQ.out; have h2 := HP.out; omega
      obtain ⟨e1, e2⟩ := div_pos_ hnp hr0 hr1
      by_cases hbig : 4611686018427387904 < q
      · have H : Hid (divS a b c = (0, 0, 2)) := by
          show _ = _; rw [divS, if_neg]; rw [e1]; simp [amt]; omega
        cases n <;> cases m <;> (try (exact absurd hs (by decide)))
        all_goals
          go_enter Tryz.func141, Tryz.ntmps141
          go_wp2_with fail
          refine (HH.out.1 _).mono ?_; rintro e w1 ⟨rfl, rfl⟩
          go_wp2_with fail
          refine (HH.out.2.1 _).mono ?_; rintro e w1 ⟨rfl, rfl⟩
          go_wp2_with fail
          refine (HM.out _).mono ?_; rintro e w1 ⟨rfl, rfl⟩
          clear hnp hp e1 e2 hs
          go_wp2_with fail
          refine (HD.out _).mono ?_; rintro e w1 ⟨rfl, hw1⟩; obtain ⟨hc1, hf1⟩ := bcell hw1; have hz1 := hw1.size; (try simp only [World.size_alloc, World.size_setCell, World.size_drew, size_drewN, Nat.add_one_le_iff] at hz1); (try have hy1 : w.heap.size < w1.heap.size := by omega); (try have hx1 : w.heap.size + 1 < w1.heap.size := by omega); have HW1 := Lib.hid hw1; clear hw1
          go_wp2_with fail
          go_ret3
          exact ⟨ret_tr H.out, (by repeat' (first | (with_reducible exact Below.refl _ _) | (with_reducible refine Below.alloc ?_ ?_ _) | (with_reducible refine below_drewN ?_ _) | (with_reducible refine Below.drew ?_) | (with_reducible refine Below.setCell ?_ ?_ _) | (with_reducible refine Below.trans ?_ (Below.mono HW0.out ?_)) | (with_reducible refine Below.trans ?_ (Below.mono HW1.out ?_)) | (with_reducible refine Below.trans ?_ (Below.mono HW2.out ?_)) | (with_reducible refine Below.trans ?_ (Below.mono HW3.out ?_)) | (with_reducible refine Below.trans ?_ (Below.mono HW4.out ?_)) | (with_reducible refine Below.trans ?_ (Below.mono HW5.out ?_)) | (with_reducible refine Below.trans ?_ (Below.mono HW6.out ?_)) | (with_reducible refine Below.trans ?_ (Below.mono HW7.out ?_)) | (with_reducible exact Nat.le_refl _) | omega | (simp only [World.size_alloc, World.size_setCell, World.size_drew, size_drewN]; omega) | (simp; done) | (simp; omega)))⟩
      · have H : Hid (divS a b c = (q, r, 0)) := by
          show _ = _; rw [divS, if_pos (by rw [e1]; simp [amt]; omega), e1, e2]
        cases n <;> cases m <;> (try (exact absurd hs (by decide)))
        all_goals
          go_enter Tryz.func141, Tryz.ntmps141
          go_wp2_with fail
          refine (HH.out.1 _).mono ?_; rintro e w1 ⟨rfl, rfl⟩
          go_wp2_with fail
          refine (HH.out.2.1 _).mono ?_; rintro e w1 ⟨rfl, rfl⟩
          go_wp2_with fail
          refine (HM.out _).mono ?_; rintro e w1 ⟨rfl, rfl⟩
          clear hnp hp e1 e2 hs
          go_wp2_with fail
          refine (HD.out _).mono ?_; rintro e w1 ⟨rfl, hw1⟩; obtain ⟨hc1, hf1⟩ := bcell hw1; have hz1 := hw1.size; (try simp only [World.size_alloc, World.size_setCell, World.size_drew, size_drewN, Nat.add_one_le_iff] at hz1); (try have hy1 : w.heap.size < w1.heap.size := by omega); (try have hx1 : w.heap.size + 1 < w1.heap.size := by omega); have HW1 := Lib.hid hw1; clear hw1
          go_wp2_with fail
          go_ret3
          exact ⟨ret_tr H.out, (by repeat' (first | (with_reducible exact Below.refl _ _) | (with_reducible refine Below.alloc ?_ ?_ _) | (with_reducible refine below_drewN ?_ _) | (with_reducible refine Below.drew ?_) | (with_reducible refine Below.setCell ?_ ?_ _) | (with_reducible refine Below.trans ?_ (Below.mono HW0.out ?_)) | (with_reducible refine Below.trans ?_ (Below.mono HW1.out ?_)) | (with_reducible refine Below.trans ?_ (Below.mono HW2.out ?_)) | (with_reducible refine Below.trans ?_ (Below.mono HW3.out ?_)) | (with_reducible refine Below.trans ?_ (Below.mono HW4.out ?_)) | (with_reducible refine Below.trans ?_ (Below.mono HW5.out ?_)) | (with_reducible refine Below.trans ?_ (Below.mono HW6.out ?_)) | (with_reducible refine Below.trans ?_ (Below.mono HW7.out ?_)) | (with_reducible exact Nat.le_refl _) | omega | (simp only [World.size_alloc, World.size_setCell, World.size_drew, size_drewN]; omega) | (simp; done) | (simp; omega)))⟩

def mulDivS (a b c : Int) : Int × Int := if (amt a && (amt b && amt c)) && decide (1 ≤ c) then told (a * b / c) else (0, 1)
theorem mulDiv_any (a b c : Int) (w : World) (hf : fine a b c) :
    Calls Tryz.prog 91 #[.int .i64 a, .int .i64 b, .int .i64 c] w fun e w' => e = .returned (pr (mulDivS a b c)) ∧ Below w.heap.size w w' := by
  by_cases h : (amt a && (amt b && amt c)) = true
  · have h0 : amt a = true ∧ amt b = true ∧ amt c = true := by simpa using h
    have ha := amt_yes h0.1; have hb := amt_yes h0.2.1; have hc := amt_yes h0.2.2
    clear h0
    by_cases h1 : 1 ≤ c
    · have H : Hid ((divS a b c).1 = (mulDivS a b c).1 ∧ (divS a b c).2.2 = (mulDivS a b c).2) := by
        show _ ∧ _
        have e : mulDivS a b c = told (a * b / c) := by rw [mulDivS, if_pos (by simp at h; simp [h, h1])]
        rw [e]; unfold divS told; split <;> simp
      have HF := Lib.hid hf; clear hf
      go_enter Tryz.func91, Tryz.ntmps91
      go_wp2_with fail
      refine (is3 a b c w).mono ?_; rintro e w1 ⟨rfl, rfl⟩
      rw [h]; clear h
      go_wp2_with fail
      refine (divided_any a b c _ ha hb h1 hc.2 HF.out).mono ?_; rintro e w1 ⟨rfl, hw1⟩; obtain ⟨hc1, hf1⟩ := bcell hw1; have hz1 := hw1.size; (try simp only [World.size_alloc, World.size_setCell, World.size_drew, size_drewN, Nat.add_one_le_iff] at hz1); (try have hy1 : w.heap.size < w1.heap.size := by omega); (try have hx1 : w.heap.size + 1 < w1.heap.size := by omega); have HW1 := Lib.hid hw1; clear hw1
      go_wp2_with fail
      go_ret2
      exact ⟨ret_pr (by rw [H.out.1, H.out.2]), (by repeat' (first | (with_reducible exact Below.refl _ _) | (with_reducible refine Below.alloc ?_ ?_ _) | (with_reducible refine below_drewN ?_ _) | (with_reducible refine Below.drew ?_) | (with_reducible refine Below.setCell ?_ ?_ _) | (with_reducible refine Below.trans ?_ (Below.mono HW0.out ?_)) | (with_reducible refine Below.trans ?_ (Below.mono HW1.out ?_)) | (with_reducible refine Below.trans ?_ (Below.mono HW2.out ?_)) | (with_reducible refine Below.trans ?_ (Below.mono HW3.out ?_)) | (with_reducible refine Below.trans ?_ (Below.mono HW4.out ?_)) | (with_reducible refine Below.trans ?_ (Below.mono HW5.out ?_)) | (with_reducible refine Below.trans ?_ (Below.mono HW6.out ?_)) | (with_reducible refine Below.trans ?_ (Below.mono HW7.out ?_)) | (with_reducible exact Nat.le_refl _) | omega | (simp only [World.size_alloc, World.size_setCell, World.size_drew, size_drewN]; omega) | (simp; done) | (simp; omega)))⟩
    · have H : Hid (mulDivS a b c = (0, 1)) := by show _ = _; rw [mulDivS, if_neg (by simp [h1])]
      go_enter Tryz.func91, Tryz.ntmps91
      go_wp2_with fail
      refine (is3 a b c w).mono ?_; rintro e w1 ⟨rfl, rfl⟩
      rw [h]; clear h
      go_wp2_with fail
      go_ret2
      exact ⟨ret_pr H.out, (by repeat' (first | (with_reducible exact Below.refl _ _) | (with_reducible refine Below.alloc ?_ ?_ _) | (with_reducible refine below_drewN ?_ _) | (with_reducible refine Below.drew ?_) | (with_reducible refine Below.setCell ?_ ?_ _) | (with_reducible refine Below.trans ?_ (Below.mono HW0.out ?_)) | (with_reducible refine Below.trans ?_ (Below.mono HW1.out ?_)) | (with_reducible refine Below.trans ?_ (Below.mono HW2.out ?_)) | (with_reducible refine Below.trans ?_ (Below.mono HW3.out ?_)) | (with_reducible refine Below.trans ?_ (Below.mono HW4.out ?_)) | (with_reducible refine Below.trans ?_ (Below.mono HW5.out ?_)) | (with_reducible refine Below.trans ?_ (Below.mono HW6.out ?_)) | (with_reducible refine Below.trans ?_ (Below.mono HW7.out ?_)) | (with_reducible exact Nat.le_refl _) | omega | (simp only [World.size_alloc, World.size_setCell, World.size_drew, size_drewN]; omega) | (simp; done) | (simp; omega)))⟩
  · have H : Hid (mulDivS a b c = (0, 1)) := by show _ = _; rw [mulDivS, if_neg (by simp [h])]
    go_enter Tryz.func91, Tryz.ntmps91
    go_wp2_with fail
    refine (is3 a b c w).mono ?_; rintro e w1 ⟨rfl, rfl⟩
    rw [Bool.eq_false_iff.2 h]; clear h
    go_wp2_with fail
    go_ret2
    exact ⟨ret_pr H.out, (by repeat' (first | (with_reducible exact Below.refl _ _) | (with_reducible refine Below.alloc ?_ ?_ _) | (with_reducible refine below_drewN ?_ _) | (with_reducible refine Below.drew ?_) | (with_reducible refine Below.setCell ?_ ?_ _) | (with_reducible refine Below.trans ?_ (Below.mono HW0.out ?_)) | (with_reducible refine Below.trans ?_ (Below.mono HW1.out ?_)) | (with_reducible refine Below.trans ?_ (Below.mono HW2.out ?_)) | (with_reducible refine Below.trans ?_ (Below.mono HW3.out ?_)) | (with_reducible refine Below.trans ?_ (Below.mono HW4.out ?_)) | (with_reducible refine Below.trans ?_ (Below.mono HW5.out ?_)) | (with_reducible refine Below.trans ?_ (Below.mono HW6.out ?_)) | (with_reducible refine Below.trans ?_ (Below.mono HW7.out ?_)) | (with_reducible exact Nat.le_refl _) | omega | (simp only [World.size_alloc, World.size_setCell, World.size_drew, size_drewN]; omega) | (simp; done) | (simp; omega)))⟩
end Go.Proofs.YtbjjgnaojoaoiaaGreat
/- A long division, bit by bit: the plain law. -/
namespace Go.Proofs.YtbjjgnaojoaoiaaGreat
open Go.RowKit Go
set_option linter.unusedVariables false

theorem bit_low {x E F : Int} (hE : 0 < E) (hF : 0 < F) (h : E * F * 2 = 4294967296) : x % 4294967296 / E % 2 = x / E % 2 := by
  have e := Int.mul_ediv_add_emod x 4294967296
  have h1 : x % 4294967296 = x + E * (-(F * 2 * (x / 4294967296))) := by
    have : E * (F * 2 * (x / 4294967296)) = 4294967296 * (x / 4294967296) := by rw [← h, ← Int.mul_assoc, ← Int.mul_assoc]
    rw [Int.mul_neg]; omega
  rw [h1, Int.add_mul_ediv_left _ _ (by omega)]
  have : F * 2 * (x / 4294967296) = 2 * (F * (x / 4294967296)) := by rw [Int.mul_comm F 2, Int.mul_assoc]
  rw [this]; omega

theorem pow_parts {e : Nat} (he : e < 32) : (0 : Int) < 2 ^ e ∧ (0 : Int) < 2 ^ (31 - e) ∧ (2 : Int) ^ e * 2 ^ (31 - e) * 2 = 4294967296 := by
  refine ⟨Int.pow_pos (by omega), Int.pow_pos (by omega), ?_⟩
  rw [← Int.pow_add, show e + (31 - e) = 31 by omega]; rfl

/-- The weight of digit d. -/
def wt (d : Nat) : Int := 4294967296 ^ d
theorem wt_pow (d : Nat) : wt d = 2 ^ (32 * d) := by unfold wt; rw [Int.pow_mul]; rfl
theorem dg_wt (d : Nat) (hd : d ≤ 3) (m : Int) : dg d m = m / wt d % 4294967296 := by
  have : d = 0 ∨ d = 1 ∨ d = 2 ∨ d = 3 := by omega
  rcases this with rfl | rfl | rfl | rfl <;> simp [dg, wt]

theorem bit_dg {d e : Nat} (hd : d ≤ 3) (he : e < 32) (m : Int) : dg d m / 2 ^ e % 2 = m / 2 ^ (32 * d + e) % 2 := by
  obtain ⟨p1, p2, p3⟩ := pow_parts he
  rw [dg_wt d hd, bit_low p1 p2 p3, Int.pow_add, ← wt_pow, Int.ediv_ediv_of_nonneg (by unfold wt; exact Int.le_of_lt (Int.pow_pos (by omega)))]

theorem half_pow (m : Int) (i : Nat) (h0 : 0 ≤ m) : m / 2 ^ i = 2 * (m / 2 ^ (i + 1)) + m / 2 ^ i % 2 := by
  have : m / 2 ^ (i + 1) = m / 2 ^ i / 2 := by
    rw [Int.pow_succ, Int.ediv_ediv_of_nonneg (Int.le_of_lt (Int.pow_pos (by omega)))]
  rw [this]; omega

theorem div_step {c K R M b : Int} (hM : M = 2 * (K * c + R) + b) (hb : 0 ≤ b ∧ b ≤ 1) (hR : 0 ≤ R ∧ R < c) :
    (c ≤ 2 * R + b → M = (2 * K + 1) * c + (2 * R + b - c)) ∧ (2 * R + b < c → M = (2 * K) * c + (2 * R + b)) := by
  have e : (2 * K) * c = 2 * (K * c) := Int.mul_assoc _ _ _
  refine ⟨fun _ => ?_, fun _ => ?_⟩
  · rw [Int.add_mul, e, Int.one_mul]; omega
  · rw [e]; omega

/-- The digit that a bit is added to has room. -/
theorem dg_room {d e : Nat} (hd : d ≤ 3) (he : e < 32) (K : Int) (hK : 0 ≤ K) : dg d (K * 2 ^ (32 * d + e + 1)) + 2 ^ e ≤ 4294967295 := by
  obtain ⟨p1, p2, p3⟩ := pow_parts he
  have hb := dg_bd d (K * 2 ^ (32 * d + e + 1))
  have e1 : K * 2 ^ (32 * d + e + 1) = (K * 2 ^ (e + 1)) * wt d := by
    rw [wt_pow, Int.mul_assoc, ← Int.pow_add]; congr 2; omega
  have hw : 0 < wt d := by unfold wt; exact Int.pow_pos (by omega)
  have e2 : dg d (K * 2 ^ (32 * d + e + 1)) = (K * 2 ^ (e + 1)) % 4294967296 := by rw [dg_wt d hd, e1, Int.mul_ediv_cancel _ (by omega)]
  have e3 : (K * 2 ^ (e + 1)) % 4294967296 = 2 ^ e * 2 * (K % 2 ^ (31 - e)) := by
    have : (4294967296 : Int) = 2 ^ e * 2 * 2 ^ (31 - e) := by rw [← p3, Int.mul_assoc, Int.mul_assoc, Int.mul_comm 2]
    rw [this, Int.mul_comm K, Int.pow_succ, Int.mul_emod_mul_of_pos _ _ (by omega)]
  rw [e2] at hb ⊢
  rw [e3] at hb ⊢
  generalize K % 2 ^ (31 - e) = z at *
  generalize (2 : Int) ^ (31 - e) = F at *
  generalize (2 : Int) ^ e = E at *
  have hzF : E * 2 * z < E * 2 * F := by
    have : E * 2 * F = 4294967296 := by rw [← p3, Int.mul_assoc, Int.mul_assoc, Int.mul_comm 2]
    omega
  have hz : z < F := Int.lt_of_mul_lt_mul_left hzF (by omega)
  have h2 : E * 2 * (z + 1) ≤ E * 2 * F := Int.mul_le_mul_of_nonneg_left (by omega) (by omega)
  have h3 : E * 2 * F = 4294967296 := by rw [← p3, Int.mul_assoc, Int.mul_assoc, Int.mul_comm 2]
  rw [Int.mul_add] at h2
  omega

theorem dg_add0 {Q P : Int} (h0 : 0 ≤ Q) (h1 : Q < big) (hP : 0 ≤ P) (h : dg 0 Q + P ≤ 4294967295) : dg 0 (Q + P * wt 0) = dg 0 Q + P ∧ dg 1 (Q + P * wt 0) = dg 1 Q ∧ dg 2 (Q + P * wt 0) = dg 2 Q ∧ dg 3 (Q + P * wt 0) = dg 3 Q := by
  have v := V_dg h0 h1
  have a0 := dg_bd 0 Q; have a1 := dg_bd 1 Q; have a2 := dg_bd 2 Q; have a3 := dg_bd 3 Q
  have := dg_V (a0 := dg 0 Q + P) (a1 := dg 1 Q) (a2 := dg 2 Q) (a3 := dg 3 Q) (by omega) a1 a2 a3
  have e : Q + P * wt 0 = V (dg 0 Q + P) (dg 1 Q) (dg 2 Q) (dg 3 Q) := by
    unfold wt V at *; rw [show (4294967296 : Int) ^ 0 = 1 by rfl]; omega
  rw [e]; exact this
theorem dg_add1 {Q P : Int} (h0 : 0 ≤ Q) (h1 : Q < big) (hP : 0 ≤ P) (h : dg 1 Q + P ≤ 4294967295) : dg 0 (Q + P * wt 1) = dg 0 Q ∧ dg 1 (Q + P * wt 1) = dg 1 Q + P ∧ dg 2 (Q + P * wt 1) = dg 2 Q ∧ dg 3 (Q + P * wt 1) = dg 3 Q := by
  have v := V_dg h0 h1
  have a0 := dg_bd 0 Q; have a1 := dg_bd 1 Q; have a2 := dg_bd 2 Q; have a3 := dg_bd 3 Q
  have := dg_V (a0 := dg 0 Q) (a1 := dg 1 Q + P) (a2 := dg 2 Q) (a3 := dg 3 Q) a0 (by omega) a2 a3
  have e : Q + P * wt 1 = V (dg 0 Q) (dg 1 Q + P) (dg 2 Q) (dg 3 Q) := by
    unfold wt V at *; rw [show (4294967296 : Int) ^ 1 = 4294967296 by rfl]; omega
  rw [e]; exact this
theorem dg_add2 {Q P : Int} (h0 : 0 ≤ Q) (h1 : Q < big) (hP : 0 ≤ P) (h : dg 2 Q + P ≤ 4294967295) : dg 0 (Q + P * wt 2) = dg 0 Q ∧ dg 1 (Q + P * wt 2) = dg 1 Q ∧ dg 2 (Q + P * wt 2) = dg 2 Q + P ∧ dg 3 (Q + P * wt 2) = dg 3 Q := by
  have v := V_dg h0 h1
  have a0 := dg_bd 0 Q; have a1 := dg_bd 1 Q; have a2 := dg_bd 2 Q; have a3 := dg_bd 3 Q
  have := dg_V (a0 := dg 0 Q) (a1 := dg 1 Q) (a2 := dg 2 Q + P) (a3 := dg 3 Q) a0 a1 (by omega) a3
  have e : Q + P * wt 2 = V (dg 0 Q) (dg 1 Q) (dg 2 Q + P) (dg 3 Q) := by
    unfold wt V at *; rw [show (4294967296 : Int) ^ 2 = 18446744073709551616 by rfl]; omega
  rw [e]; exact this
theorem dg_add3 {Q P : Int} (h0 : 0 ≤ Q) (h1 : Q < big) (hP : 0 ≤ P) (h : dg 3 Q + P ≤ 4294967295) : dg 0 (Q + P * wt 3) = dg 0 Q ∧ dg 1 (Q + P * wt 3) = dg 1 Q ∧ dg 2 (Q + P * wt 3) = dg 2 Q ∧ dg 3 (Q + P * wt 3) = dg 3 Q + P := by
  have v := V_dg h0 h1
  have a0 := dg_bd 0 Q; have a1 := dg_bd 1 Q; have a2 := dg_bd 2 Q; have a3 := dg_bd 3 Q
  have := dg_V (a0 := dg 0 Q) (a1 := dg 1 Q) (a2 := dg 2 Q) (a3 := dg 3 Q + P) a0 a1 a2 (by omega)
  have e : Q + P * wt 3 = V (dg 0 Q) (dg 1 Q) (dg 2 Q) (dg 3 Q + P) := by
    unfold wt V at *; rw [show (4294967296 : Int) ^ 3 = 79228162514264337593543950336 by rfl]; omega
  rw [e]; exact this
end Go.Proofs.YtbjjgnaojoaoiaaGreat
/- the reference's product. -/
namespace Go.Proofs.YtbjjgnaojoaoiaaGreat
open Go.RowKit Go
set_option linter.unusedVariables false
set_option linter.unusedSimpArgs false

theorem plus_v (a0 a1 a2 a3 b0 b1 b2 b3 A B : Int) (w : World) (ha0 : 0 ≤ a0 ∧ a0 ≤ 4294967295) (ha1 : 0 ≤ a1 ∧ a1 ≤ 4294967295) (ha2 : 0 ≤ a2 ∧ a2 ≤ 4294967295) (ha3 : 0 ≤ a3 ∧ a3 ≤ 4294967295)
    (hb0 : 0 ≤ b0 ∧ b0 ≤ 4294967295) (hb1 : 0 ≤ b1 ∧ b1 ≤ 4294967295) (hb2 : 0 ≤ b2 ∧ b2 ≤ 4294967295) (hb3 : 0 ≤ b3 ∧ b3 ≤ 4294967295) (hA : V a0 a1 a2 a3 = A) (hB : V b0 b1 b2 b3 = B) (h : A + B < big) :
    Calls Tryz.prog 56 #[d4 a0 a1 a2 a3, d4 b0 b1 b2 b3] w fun e w' => e = .returned (dm (A + B)) ∧ Below w.heap.size w w' := by
  obtain ⟨e0, e1, e2, e3⟩ := dg_V ha0 ha1 ha2 ha3
  obtain ⟨f0, f1, f2, f3⟩ := dg_V hb0 hb1 hb2 hb3
  have hA0 : 0 ≤ A := by rw [← hA]; unfold V; omega
  have hB0 : 0 ≤ B := by rw [← hB]; unfold V; omega
  have := plusm A B w hA0 hB0 h
  rw [← hA, ← hB] at this ⊢
  unfold dm at this
  rw [e0, e1, e2, e3, f0, f1, f2, f3] at this
  exact this

/-- The product's sums, behind so many of the four digits' products. -/
def st (p q r s : Int) (n : Int) : Int := if n = 0 then 0 else if n = 1 then p else if n = 2 then p + q * 4294967296 else if n = 3 then p + q * 4294967296 + r * 4294967296 else p + q * 4294967296 + r * 4294967296 + s * 18446744073709551616
theorem st_all (a b : Int) (ha : 0 ≤ a ∧ a ≤ 18446744073709551615) (hb : 0 ≤ b ∧ b ≤ 18446744073709551615) : st (dg 0 a * dg 0 b) (dg 0 a * dg 1 b) (dg 1 a * dg 0 b) (dg 1 a * dg 1 b) 4 = a * b := by
  have e1 := two_low ha.1 ha.2
  have e2 := two_low hb.1 hb.2
  have h : (dg 0 a + dg 1 a * 4294967296) * (dg 0 b + dg 1 b * 4294967296) = dg 0 a * dg 0 b + dg 0 a * dg 1 b * 4294967296 + dg 1 a * dg 0 b * 4294967296 + dg 1 a * dg 1 b * 18446744073709551616 := by
    rw [Int.add_mul, Int.mul_add, Int.mul_add, ← Int.mul_assoc, show dg 1 a * 4294967296 * dg 0 b = dg 1 a * dg 0 b * 4294967296 by rw [Int.mul_assoc, Int.mul_comm 4294967296, ← Int.mul_assoc],
      show dg 1 a * 4294967296 * (dg 1 b * 4294967296) = dg 1 a * dg 1 b * 18446744073709551616 by rw [Int.mul_assoc, Int.mul_comm 4294967296, ← Int.mul_assoc, ← Int.mul_assoc, Int.mul_assoc (dg 1 a * dg 1 b)]; rfl]
    omega
  rw [e1, e2] at h
  rw [h]; simp [st]
theorem st_bd {p q r s n : Int} (hp : 0 ≤ p ∧ p ≤ 18446744065119617025) (hq : 0 ≤ q ∧ q ≤ 18446744065119617025) (hr : 0 ≤ r ∧ r ≤ 18446744065119617025) (hs : 0 ≤ s ∧ s ≤ 18446744065119617025) : 0 ≤ st p q r s n ∧ st p q r s n < big := by
  unfold st big; repeat' split
  all_goals omega

theorem mul_bd2 {q a : Int} (hq : 0 ≤ q ∧ q ≤ 4294967295) (ha : 0 ≤ a ∧ a ≤ 4294967295) : 0 ≤ q * a ∧ q * a ≤ 18446744065119617025 := by
  refine ⟨Int.mul_nonneg hq.1 ha.1, Int.le_trans (Int.mul_le_mul_of_nonneg_left ha.2 hq.1) ?_⟩
  omega

/-- Behind n products: the sum's block, and the arguments' ones. -/
def MulAt (w : World) (n1 n2 : Bool) (a b : Int) (T D : Nat) (n : Int) (wr : World) : Prop :=
  wr.heap[w.heap.size]? = some (.cells #[.bool n1, .int .u64 (dg 0 a), .int .u64 (dg 1 a), .int .u64 (dg 2 a), .int .u64 (dg 3 a)] T (0, 0)) ∧
  wr.heap[w.heap.size + 1]? = some (.cells #[.bool n2, .int .u64 (dg 0 b), .int .u64 (dg 1 b), .int .u64 (dg 2 b), .int .u64 (dg 3 b)] T (0, 0)) ∧
  wr.heap[w.heap.size + 1 + 1]? = some (.cells #[.bool false, .int .u64 0, .int .u64 0, .int .u64 0, .int .u64 0] T (0, 0)) ∧
  (∃ s, s = st (dg 0 a * dg 0 b) (dg 0 a * dg 1 b) (dg 1 a * dg 0 b) (dg 1 a * dg 1 b) n ∧ wr.heap[w.heap.size + 1 + 1 + 1]? = some (.cells #[.int .u64 (dg 0 s), .int .u64 (dg 1 s), .int .u64 (dg 2 s), .int .u64 (dg 3 s)] D (0, 0))) ∧
  Below w.heap.size w wr ∧ w.heap.size + 1 + 1 + 1 < wr.heap.size

theorem heap_at1 (w : World) (a : Obj) : (w.alloc a).heap[w.heap.size]? = some a := heap_alloc_new w a
theorem mul_start (w : World) (n1 n2 : Bool) (a b : Int) (T D : Nat) : MulAt w n1 n2 a b T D 0
    ((((w.alloc (.cells #[.bool n1, .int .u64 (dg 0 a), .int .u64 (dg 1 a), .int .u64 (dg 2 a), .int .u64 (dg 3 a)] T)).alloc (.cells #[.bool n2, .int .u64 (dg 0 b), .int .u64 (dg 1 b), .int .u64 (dg 2 b), .int .u64 (dg 3 b)] T)).alloc (.cells #[.bool false, .int .u64 0, .int .u64 0, .int .u64 0, .int .u64 0] T)).alloc (.cells #[.int .u64 0, .int .u64 0, .int .u64 0, .int .u64 0] D)) := by
  have e0 : dg 0 0 = 0 ∧ dg 1 0 = 0 ∧ dg 2 0 = 0 ∧ dg 3 0 = 0 := by decide
  refine ⟨?_, ?_, ?_, ⟨0, rfl, ?_⟩, (by repeat' (first | (with_reducible exact Below.refl _ _) | (with_reducible refine Below.alloc ?_ ?_ _) | (with_reducible refine below_drewN ?_ _) | (with_reducible refine Below.drew ?_) | (with_reducible refine Below.setCell ?_ ?_ _) | (with_reducible refine Below.trans ?_ (Below.mono HW0.out ?_)) | (with_reducible refine Below.trans ?_ (Below.mono HW1.out ?_)) | (with_reducible refine Below.trans ?_ (Below.mono HW2.out ?_)) | (with_reducible refine Below.trans ?_ (Below.mono HW3.out ?_)) | (with_reducible refine Below.trans ?_ (Below.mono HW4.out ?_)) | (with_reducible refine Below.trans ?_ (Below.mono HW5.out ?_)) | (with_reducible refine Below.trans ?_ (Below.mono HW6.out ?_)) | (with_reducible refine Below.trans ?_ (Below.mono HW7.out ?_)) | (with_reducible exact Nat.le_refl _) | omega | (simp only [World.size_alloc, World.size_setCell, World.size_drew, size_drewN]; omega) | (simp; done) | (simp; omega))), by simp⟩
  · exact blk_alloc (blk_alloc (blk_alloc (blk_new w _ rfl) _) _) _
  · exact blk_alloc (blk_alloc (blk_new _ _ (by simp)) _) _
  · exact blk_alloc (blk_new _ _ (by simp)) _
  · rw [e0.1, e0.2.1, e0.2.2.1, e0.2.2.2]; exact blk_new _ _ (by simp)
theorem cells4 {w1 : World} {v0 v1 v2 v3 : Value} {t g : Nat} (h : w1.heap[g]? = some (.cells #[v0, v1, v2, v3] t (0, 0))) :
    w1.cell? ⟨g, 0, none⟩ = some v0 ∧ w1.cell? ⟨g, 1, none⟩ = some v1 ∧ w1.cell? ⟨g, 2, none⟩ = some v2 ∧ w1.cell? ⟨g, 3, none⟩ = some v3 ∧ ∀ i, w1.frozen? ⟨g, i, none⟩ = false := by
  simp [World.cell?, World.frozen?, h]
theorem set4_blk {w1 : World} {v0 v1 v2 v3 : Value} {t g : Nat} (h : w1.heap[g]? = some (.cells #[v0, v1, v2, v3] t (0, 0))) (u0 u1 u2 u3 : Value) :
    ((((w1.setCell ⟨g, 0, none⟩ u0).setCell ⟨g, 1, none⟩ u1).setCell ⟨g, 2, none⟩ u2).setCell ⟨g, 3, none⟩ u3).heap[g]? = some (.cells #[u0, u1, u2, u3] t (0, 0)) := by
  simp [World.setCell, Array.getElem?_modify, h]

theorem mfar {w : World} {g g' : Nat} {o : Obj} (h : w.heap[g]? = some o) (hp : g ≠ g') (u0 u1 u2 u3 : Value) : ((((w.setCell ⟨g', 0, none⟩ u0).setCell ⟨g', 1, none⟩ u1).setCell ⟨g', 2, none⟩ u2).setCell ⟨g', 3, none⟩ u3).heap[g]? = some o :=
  blk_far (p := ⟨g', 3, none⟩) (blk_far (p := ⟨g', 2, none⟩) (blk_far (p := ⟨g', 1, none⟩) (blk_far (p := ⟨g', 0, none⟩) h hp _) hp _) hp _) hp _
theorem mbelow {w w1 : World} {B g' : Nat} (h : Below B w w1) (hp : B ≤ g') (u0 u1 u2 u3 : Value) : Below B w ((((w1.setCell ⟨g', 0, none⟩ u0).setCell ⟨g', 1, none⟩ u1).setCell ⟨g', 2, none⟩ u2).setCell ⟨g', 3, none⟩ u3) :=
  (((h.setCell (p := ⟨g', 0, none⟩) hp _).setCell (p := ⟨g', 1, none⟩) hp _).setCell (p := ⟨g', 2, none⟩) hp _).setCell (p := ⟨g', 3, none⟩) hp _

set_option maxHeartbeats 1600000 in
set_option maxRecDepth 100000 in
theorem wmul_any (n1 n2 : Bool) (a b : Int) (w : World) (ha : 0 ≤ a ∧ a ≤ 18446744073709551615) (hb : 0 ≤ b ∧ b ≤ 18446744073709551615) :
    Calls Tryz.prog 158 #[wd n1 a, wd n2 b] w fun e w' => e = .returned (wd (n1 != n2) (a * b)) ∧ Below w.heap.size w w' := by
  have a0 := dg_bd 0 a; have a1 := dg_bd 1 a; have b0 := dg_bd 0 b; have b1 := dg_bd 1 b
  have p00 := mul_bd2 a0 b0; have p01 := mul_bd2 a0 b1; have p10 := mul_bd2 a1 b0; have p11 := mul_bd2 a1 b1
  have hall := Lib.hid (st_all a b ha hb)
  go_enter Tryz.func158, Tryz.ntmps158
  go_wp2_with fail
  go_loopw [6] (fun i wr => ∃ I : Int, (I = 0 ∨ I = 1 ∨ I = 2) ∧ i = .int .i64 I ∧ MulAt w n1 n2 a b 47 45 (2 * I) wr) (fun i _ => (2 - intOf i).toNat)
  case atStart => exact ⟨0, by omega, rfl, mul_start w n1 n2 a b _ _⟩
  case round =>
    obtain ⟨I, hI, rfl, hM⟩ := hrel
    have HM := Lib.hid hM; clear hM
    rcases hI with rfl | rfl | rfl
    · go_wp2_with fail
      obtain ⟨wo, rfl⟩ : ∃ wo : World, wo = wr := ⟨_, rfl⟩
      go_loopw [7, 8, 9] (fun k _ _ wr => ∃ K : Int, (K = 0 ∨ K = 1 ∨ K = 2) ∧ k = .int .i64 K ∧ MulAt w n1 n2 a b 47 45 (2 * 0 + K) wr) (fun k _ _ _ => (2 - intOf k).toNat)
      case atStart => exact ⟨0, by omega, rfl, HM.out⟩
      case round =>
        obtain ⟨K, hK, rfl, hM⟩ := hrel
        clear HM
        have HM := Lib.hid hM; clear hM
        rcases hK with rfl | rfl | rfl
        · have hM : MulAt w n1 n2 a b 47 45 0 wr := HM.out
          obtain ⟨h0, h1, h2, ⟨s, hs, h3⟩, hbw, hsz⟩ := hM
          have HS : Hid (s = st (dg 0 a * dg 0 b) (dg 0 a * dg 1 b) (dg 1 a * dg 0 b) (dg 1 a * dg 1 b) 0) := hs
          clear hs
          obtain ⟨c0, c1, c2, c3, c4, c5⟩ := blk5 h0
          obtain ⟨d0, d1, d2, d3, d4, d5⟩ := blk5 h1
          have H0 := Lib.hid h0; have H1 := Lib.hid h1; have H2 := Lib.hid h2; have H3 := Lib.hid h3; have HB := Lib.hid hbw
          clear h0 h1 h2 h3 hbw c5 d5
          have hsb := st_bd (n := 0) p00 p01 p10 p11
          rw [← HS.out] at hsb
          have hnb := st_bd (n := 1) p00 p01 p10 p11
          have hst : st (dg 0 a * dg 0 b) (dg 0 a * dg 1 b) (dg 1 a * dg 0 b) (dg 1 a * dg 1 b) 1 = s + V (dg 0 a * dg 0 b % 4294967296) (dg 0 a * dg 0 b / 4294967296) 0 0 := by
            rw [HS.out]; unfold st V; simp; try omega
          have HST := Lib.hid hst; clear hst
          have HNB := Lib.hid hnb; clear hnb
          go_wp2_with fail
          go_quiet (fail)
          have K0 := Lib.hid (show (wr.drewN nq).heap[_]? = _ from H0.out); have K1 := Lib.hid (show (wr.drewN nq).heap[_]? = _ from H1.out); have K2 := Lib.hid (show (wr.drewN nq).heap[_]? = _ from H2.out); have K3 := Lib.hid (show (wr.drewN nq).heap[_]? = _ from H3.out)
          have KB := Lib.hid (below_drewN HB.out nq)
          have hsx : w.heap.size + 1 + 1 + 1 < (wr.drewN nq).heap.size := hsz
          clear H0 H1 H2 H3 HB hsz c0 c1 c2 c3 c4 d0 d1 d2 d3 d4 HM
          generalize wr.drewN nq = wx at *
          have hx0 : w.heap.size < wx.heap.size := by omega
          have hx1 : w.heap.size + 1 < wx.heap.size := by omega
          have hx2 : w.heap.size + 1 + 1 < wx.heap.size := by omega
          obtain ⟨e0, e1, e2, e3, e4⟩ := cells4 K3.out
          go_wp2_with (go_at_call 56; refine (plus_v (dg 0 s) (dg 1 s) (dg 2 s) (dg 3 s) (dg 0 a * dg 0 b % 4294967296) (dg 0 a * dg 0 b / 4294967296) 0 0 s (V (dg 0 a * dg 0 b % 4294967296) (dg 0 a * dg 0 b / 4294967296) 0 0) _ (dg_bd _ _) (dg_bd _ _) (dg_bd _ _) (dg_bd _ _) (by omega) (by omega) (by omega) (by omega) (V_dg hsb.1 hsb.2) rfl (by rw [← HST.out]; exact HNB.out.2)).mono ?_; rintro e w1 ⟨rfl, hw1⟩; rw [← HST.out]; have hbx : Below wx.heap.size wx w1 := Below.trans (by repeat' (first | (with_reducible exact Below.refl _ _) | (with_reducible refine Below.alloc ?_ ?_ _) | (with_reducible refine below_drewN ?_ _) | (with_reducible refine Below.drew ?_) | (with_reducible refine Below.setCell ?_ ?_ _) | (with_reducible refine Below.trans ?_ (Below.mono HW0.out ?_)) | (with_reducible refine Below.trans ?_ (Below.mono HW1.out ?_)) | (with_reducible refine Below.trans ?_ (Below.mono HW2.out ?_)) | (with_reducible refine Below.trans ?_ (Below.mono HW3.out ?_)) | (with_reducible refine Below.trans ?_ (Below.mono HW4.out ?_)) | (with_reducible refine Below.trans ?_ (Below.mono HW5.out ?_)) | (with_reducible refine Below.trans ?_ (Below.mono HW6.out ?_)) | (with_reducible refine Below.trans ?_ (Below.mono HW7.out ?_)) | (with_reducible exact Nat.le_refl _) | omega | (simp only [World.size_alloc, World.size_setCell, World.size_drew, size_drewN]; omega) | (simp; done) | (simp; omega))) (hw1.mono (by simp only [World.size_alloc, World.size_setCell]; omega)); clear hw1; clear e0 e1 e2 e3 e4; have g3 := blk_below K3.out hbx hsx; obtain ⟨e0, e1, e2, e3, e4⟩ := cells4 g3; have G0 := Lib.hid (blk_below K0.out hbx hx0); have G1 := Lib.hid (blk_below K1.out hbx hx1); have G2 := Lib.hid (blk_below K2.out hbx hx2); have G3 := Lib.hid g3; have GB := Lib.hid (KB.out.trans (hbx.mono (by omega))); have hsy := Nat.lt_of_lt_of_le hsx hbx.size; clear g3 hbx)
          refine ⟨⟨1, by omega, by go_num, ?_⟩, by first | (simp [intOf]; done) | (simp [intOf]; omega)⟩
          exact ⟨mfar G0.out (by omega) _ _ _ _, mfar G1.out (by omega) _ _ _ _, mfar G2.out (by omega) _ _ _ _, ⟨_, rfl, set4_blk G3.out _ _ _ _⟩, mbelow GB.out (by omega) _ _ _ _, by simp only [World.size_setCell]; exact hsy⟩
        · have hM : MulAt w n1 n2 a b 47 45 1 wr := HM.out
          obtain ⟨h0, h1, h2, ⟨s, hs, h3⟩, hbw, hsz⟩ := hM
          have HS : Hid (s = st (dg 0 a * dg 0 b) (dg 0 a * dg 1 b) (dg 1 a * dg 0 b) (dg 1 a * dg 1 b) 1) := hs
          clear hs
          obtain ⟨c0, c1, c2, c3, c4, c5⟩ := blk5 h0
          obtain ⟨d0, d1, d2, d3, d4, d5⟩ := blk5 h1
          have H0 := Lib.hid h0; have H1 := Lib.hid h1; have H2 := Lib.hid h2; have H3 := Lib.hid h3; have HB := Lib.hid hbw
          clear h0 h1 h2 h3 hbw c5 d5
          have hsb := st_bd (n := 1) p00 p01 p10 p11
          rw [← HS.out] at hsb
          have hnb := st_bd (n := 2) p00 p01 p10 p11
          have hst : st (dg 0 a * dg 0 b) (dg 0 a * dg 1 b) (dg 1 a * dg 0 b) (dg 1 a * dg 1 b) 2 = s + V 0 (dg 0 a * dg 1 b % 4294967296) (dg 0 a * dg 1 b / 4294967296) 0 := by
            rw [HS.out]; unfold st V; simp; try omega
          have HST := Lib.hid hst; clear hst
          have HNB := Lib.hid hnb; clear hnb
          go_wp2_with fail
          go_quiet (fail)
          have K0 := Lib.hid (show (wr.drewN nq).heap[_]? = _ from H0.out); have K1 := Lib.hid (show (wr.drewN nq).heap[_]? = _ from H1.out); have K2 := Lib.hid (show (wr.drewN nq).heap[_]? = _ from H2.out); have K3 := Lib.hid (show (wr.drewN nq).heap[_]? = _ from H3.out)
          have KB := Lib.hid (below_drewN HB.out nq)
          have hsx : w.heap.size + 1 + 1 + 1 < (wr.drewN nq).heap.size := hsz
          clear H0 H1 H2 H3 HB hsz c0 c1 c2 c3 c4 d0 d1 d2 d3 d4 HM
          generalize wr.drewN nq = wx at *
          have hx0 : w.heap.size < wx.heap.size := by omega
          have hx1 : w.heap.size + 1 < wx.heap.size := by omega
          have hx2 : w.heap.size + 1 + 1 < wx.heap.size := by omega
          obtain ⟨e0, e1, e2, e3, e4⟩ := cells4 K3.out
          go_wp2_with (go_at_call 56; refine (plus_v (dg 0 s) (dg 1 s) (dg 2 s) (dg 3 s) 0 (dg 0 a * dg 1 b % 4294967296) (dg 0 a * dg 1 b / 4294967296) 0 s (V 0 (dg 0 a * dg 1 b % 4294967296) (dg 0 a * dg 1 b / 4294967296) 0) _ (dg_bd _ _) (dg_bd _ _) (dg_bd _ _) (dg_bd _ _) (by omega) (by omega) (by omega) (by omega) (V_dg hsb.1 hsb.2) rfl (by rw [← HST.out]; exact HNB.out.2)).mono ?_; rintro e w1 ⟨rfl, hw1⟩; rw [← HST.out]; have hbx : Below wx.heap.size wx w1 := Below.trans (by repeat' (first | (with_reducible exact Below.refl _ _) | (with_reducible refine Below.alloc ?_ ?_ _) | (with_reducible refine below_drewN ?_ _) | (with_reducible refine Below.drew ?_) | (with_reducible refine Below.setCell ?_ ?_ _) | (with_reducible refine Below.trans ?_ (Below.mono HW0.out ?_)) | (with_reducible refine Below.trans ?_ (Below.mono HW1.out ?_)) | (with_reducible refine Below.trans ?_ (Below.mono HW2.out ?_)) | (with_reducible refine Below.trans ?_ (Below.mono HW3.out ?_)) | (with_reducible refine Below.trans ?_ (Below.mono HW4.out ?_)) | (with_reducible refine Below.trans ?_ (Below.mono HW5.out ?_)) | (with_reducible refine Below.trans ?_ (Below.mono HW6.out ?_)) | (with_reducible refine Below.trans ?_ (Below.mono HW7.out ?_)) | (with_reducible exact Nat.le_refl _) | omega | (simp only [World.size_alloc, World.size_setCell, World.size_drew, size_drewN]; omega) | (simp; done) | (simp; omega))) (hw1.mono (by simp only [World.size_alloc, World.size_setCell]; omega)); clear hw1; clear e0 e1 e2 e3 e4; have g3 := blk_below K3.out hbx hsx; obtain ⟨e0, e1, e2, e3, e4⟩ := cells4 g3; have G0 := Lib.hid (blk_below K0.out hbx hx0); have G1 := Lib.hid (blk_below K1.out hbx hx1); have G2 := Lib.hid (blk_below K2.out hbx hx2); have G3 := Lib.hid g3; have GB := Lib.hid (KB.out.trans (hbx.mono (by omega))); have hsy := Nat.lt_of_lt_of_le hsx hbx.size; clear g3 hbx)
          refine ⟨⟨2, by omega, by go_num, ?_⟩, by first | (simp [intOf]; done) | (simp [intOf]; omega)⟩
          exact ⟨mfar G0.out (by omega) _ _ _ _, mfar G1.out (by omega) _ _ _ _, mfar G2.out (by omega) _ _ _ _, ⟨_, rfl, set4_blk G3.out _ _ _ _⟩, mbelow GB.out (by omega) _ _ _ _, by simp only [World.size_setCell]; exact hsy⟩
        · go_wp2_with fail
          refine ⟨⟨1, by omega, by go_num, HM.out⟩, by first | (simp [intOf]; done) | (simp [intOf]; omega)⟩
    · go_wp2_with fail
      obtain ⟨wo, rfl⟩ : ∃ wo : World, wo = wr := ⟨_, rfl⟩
      go_loopw [7, 8, 9] (fun k _ _ wr => ∃ K : Int, (K = 0 ∨ K = 1 ∨ K = 2) ∧ k = .int .i64 K ∧ MulAt w n1 n2 a b 47 45 (2 * 1 + K) wr) (fun k _ _ _ => (2 - intOf k).toNat)
      case atStart => exact ⟨0, by omega, rfl, HM.out⟩
      case round =>
        obtain ⟨K, hK, rfl, hM⟩ := hrel
        clear HM
        have HM := Lib.hid hM; clear hM
        rcases hK with rfl | rfl | rfl
        · have hM : MulAt w n1 n2 a b 47 45 2 wr := HM.out
          obtain ⟨h0, h1, h2, ⟨s, hs, h3⟩, hbw, hsz⟩ := hM
          have HS : Hid (s = st (dg 0 a * dg 0 b) (dg 0 a * dg 1 b) (dg 1 a * dg 0 b) (dg 1 a * dg 1 b) 2) := hs
          clear hs
          obtain ⟨c0, c1, c2, c3, c4, c5⟩ := blk5 h0
          obtain ⟨d0, d1, d2, d3, d4, d5⟩ := blk5 h1
          have H0 := Lib.hid h0; have H1 := Lib.hid h1; have H2 := Lib.hid h2; have H3 := Lib.hid h3; have HB := Lib.hid hbw
          clear h0 h1 h2 h3 hbw c5 d5
          have hsb := st_bd (n := 2) p00 p01 p10 p11
          rw [← HS.out] at hsb
          have hnb := st_bd (n := 3) p00 p01 p10 p11
          have hst : st (dg 0 a * dg 0 b) (dg 0 a * dg 1 b) (dg 1 a * dg 0 b) (dg 1 a * dg 1 b) 3 = s + V 0 (dg 1 a * dg 0 b % 4294967296) (dg 1 a * dg 0 b / 4294967296) 0 := by
            rw [HS.out]; unfold st V; simp; try omega
          have HST := Lib.hid hst; clear hst
          have HNB := Lib.hid hnb; clear hnb
          go_wp2_with fail
          go_quiet (fail)
          have K0 := Lib.hid (show (wr.drewN nq).heap[_]? = _ from H0.out); have K1 := Lib.hid (show (wr.drewN nq).heap[_]? = _ from H1.out); have K2 := Lib.hid (show (wr.drewN nq).heap[_]? = _ from H2.out); have K3 := Lib.hid (show (wr.drewN nq).heap[_]? = _ from H3.out)
          have KB := Lib.hid (below_drewN HB.out nq)
          have hsx : w.heap.size + 1 + 1 + 1 < (wr.drewN nq).heap.size := hsz
          clear H0 H1 H2 H3 HB hsz c0 c1 c2 c3 c4 d0 d1 d2 d3 d4 HM
          generalize wr.drewN nq = wx at *
          have hx0 : w.heap.size < wx.heap.size := by omega
          have hx1 : w.heap.size + 1 < wx.heap.size := by omega
          have hx2 : w.heap.size + 1 + 1 < wx.heap.size := by omega
          obtain ⟨e0, e1, e2, e3, e4⟩ := cells4 K3.out
          go_wp2_with (go_at_call 56; refine (plus_v (dg 0 s) (dg 1 s) (dg 2 s) (dg 3 s) 0 (dg 1 a * dg 0 b % 4294967296) (dg 1 a * dg 0 b / 4294967296) 0 s (V 0 (dg 1 a * dg 0 b % 4294967296) (dg 1 a * dg 0 b / 4294967296) 0) _ (dg_bd _ _) (dg_bd _ _) (dg_bd _ _) (dg_bd _ _) (by omega) (by omega) (by omega) (by omega) (V_dg hsb.1 hsb.2) rfl (by rw [← HST.out]; exact HNB.out.2)).mono ?_; rintro e w1 ⟨rfl, hw1⟩; rw [← HST.out]; have hbx : Below wx.heap.size wx w1 := Below.trans (by repeat' (first | (with_reducible exact Below.refl _ _) | (with_reducible refine Below.alloc ?_ ?_ _) | (with_reducible refine below_drewN ?_ _) | (with_reducible refine Below.drew ?_) | (with_reducible refine Below.setCell ?_ ?_ _) | (with_reducible refine Below.trans ?_ (Below.mono HW0.out ?_)) | (with_reducible refine Below.trans ?_ (Below.mono HW1.out ?_)) | (with_reducible refine Below.trans ?_ (Below.mono HW2.out ?_)) | (with_reducible refine Below.trans ?_ (Below.mono HW3.out ?_)) | (with_reducible refine Below.trans ?_ (Below.mono HW4.out ?_)) | (with_reducible refine Below.trans ?_ (Below.mono HW5.out ?_)) | (with_reducible refine Below.trans ?_ (Below.mono HW6.out ?_)) | (with_reducible refine Below.trans ?_ (Below.mono HW7.out ?_)) | (with_reducible exact Nat.le_refl _) | omega | (simp only [World.size_alloc, World.size_setCell, World.size_drew, size_drewN]; omega) | (simp; done) | (simp; omega))) (hw1.mono (by simp only [World.size_alloc, World.size_setCell]; omega)); clear hw1; clear e0 e1 e2 e3 e4; have g3 := blk_below K3.out hbx hsx; obtain ⟨e0, e1, e2, e3, e4⟩ := cells4 g3; have G0 := Lib.hid (blk_below K0.out hbx hx0); have G1 := Lib.hid (blk_below K1.out hbx hx1); have G2 := Lib.hid (blk_below K2.out hbx hx2); have G3 := Lib.hid g3; have GB := Lib.hid (KB.out.trans (hbx.mono (by omega))); have hsy := Nat.lt_of_lt_of_le hsx hbx.size; clear g3 hbx)
          refine ⟨⟨1, by omega, by go_num, ?_⟩, by first | (simp [intOf]; done) | (simp [intOf]; omega)⟩
          exact ⟨mfar G0.out (by omega) _ _ _ _, mfar G1.out (by omega) _ _ _ _, mfar G2.out (by omega) _ _ _ _, ⟨_, rfl, set4_blk G3.out _ _ _ _⟩, mbelow GB.out (by omega) _ _ _ _, by simp only [World.size_setCell]; exact hsy⟩
        · have hM : MulAt w n1 n2 a b 47 45 3 wr := HM.out
          obtain ⟨h0, h1, h2, ⟨s, hs, h3⟩, hbw, hsz⟩ := hM
          have HS : Hid (s = st (dg 0 a * dg 0 b) (dg 0 a * dg 1 b) (dg 1 a * dg 0 b) (dg 1 a * dg 1 b) 3) := hs
          clear hs
          obtain ⟨c0, c1, c2, c3, c4, c5⟩ := blk5 h0
          obtain ⟨d0, d1, d2, d3, d4, d5⟩ := blk5 h1
          have H0 := Lib.hid h0; have H1 := Lib.hid h1; have H2 := Lib.hid h2; have H3 := Lib.hid h3; have HB := Lib.hid hbw
          clear h0 h1 h2 h3 hbw c5 d5
          have hsb := st_bd (n := 3) p00 p01 p10 p11
          rw [← HS.out] at hsb
          have hnb := st_bd (n := 4) p00 p01 p10 p11
          have hst : st (dg 0 a * dg 0 b) (dg 0 a * dg 1 b) (dg 1 a * dg 0 b) (dg 1 a * dg 1 b) 4 = s + V 0 0 (dg 1 a * dg 1 b % 4294967296) (dg 1 a * dg 1 b / 4294967296) := by
            rw [HS.out]; unfold st V; simp; try omega
          have HST := Lib.hid hst; clear hst
          have HNB := Lib.hid hnb; clear hnb
          go_wp2_with fail
          go_quiet (fail)
          have K0 := Lib.hid (show (wr.drewN nq).heap[_]? = _ from H0.out); have K1 := Lib.hid (show (wr.drewN nq).heap[_]? = _ from H1.out); have K2 := Lib.hid (show (wr.drewN nq).heap[_]? = _ from H2.out); have K3 := Lib.hid (show (wr.drewN nq).heap[_]? = _ from H3.out)
          have KB := Lib.hid (below_drewN HB.out nq)
          have hsx : w.heap.size + 1 + 1 + 1 < (wr.drewN nq).heap.size := hsz
          clear H0 H1 H2 H3 HB hsz c0 c1 c2 c3 c4 d0 d1 d2 d3 d4 HM
          generalize wr.drewN nq = wx at *
          have hx0 : w.heap.size < wx.heap.size := by omega
          have hx1 : w.heap.size + 1 < wx.heap.size := by omega
          have hx2 : w.heap.size + 1 + 1 < wx.heap.size := by omega
          obtain ⟨e0, e1, e2, e3, e4⟩ := cells4 K3.out
          go_wp2_with (go_at_call 56; refine (plus_v (dg 0 s) (dg 1 s) (dg 2 s) (dg 3 s) 0 0 (dg 1 a * dg 1 b % 4294967296) (dg 1 a * dg 1 b / 4294967296) s (V 0 0 (dg 1 a * dg 1 b % 4294967296) (dg 1 a * dg 1 b / 4294967296)) _ (dg_bd _ _) (dg_bd _ _) (dg_bd _ _) (dg_bd _ _) (by omega) (by omega) (by omega) (by omega) (V_dg hsb.1 hsb.2) rfl (by rw [← HST.out]; exact HNB.out.2)).mono ?_; rintro e w1 ⟨rfl, hw1⟩; rw [← HST.out]; have hbx : Below wx.heap.size wx w1 := Below.trans (by repeat' (first | (with_reducible exact Below.refl _ _) | (with_reducible refine Below.alloc ?_ ?_ _) | (with_reducible refine below_drewN ?_ _) | (with_reducible refine Below.drew ?_) | (with_reducible refine Below.setCell ?_ ?_ _) | (with_reducible refine Below.trans ?_ (Below.mono HW0.out ?_)) | (with_reducible refine Below.trans ?_ (Below.mono HW1.out ?_)) | (with_reducible refine Below.trans ?_ (Below.mono HW2.out ?_)) | (with_reducible refine Below.trans ?_ (Below.mono HW3.out ?_)) | (with_reducible refine Below.trans ?_ (Below.mono HW4.out ?_)) | (with_reducible refine Below.trans ?_ (Below.mono HW5.out ?_)) | (with_reducible refine Below.trans ?_ (Below.mono HW6.out ?_)) | (with_reducible refine Below.trans ?_ (Below.mono HW7.out ?_)) | (with_reducible exact Nat.le_refl _) | omega | (simp only [World.size_alloc, World.size_setCell, World.size_drew, size_drewN]; omega) | (simp; done) | (simp; omega))) (hw1.mono (by simp only [World.size_alloc, World.size_setCell]; omega)); clear hw1; clear e0 e1 e2 e3 e4; have g3 := blk_below K3.out hbx hsx; obtain ⟨e0, e1, e2, e3, e4⟩ := cells4 g3; have G0 := Lib.hid (blk_below K0.out hbx hx0); have G1 := Lib.hid (blk_below K1.out hbx hx1); have G2 := Lib.hid (blk_below K2.out hbx hx2); have G3 := Lib.hid g3; have GB := Lib.hid (KB.out.trans (hbx.mono (by omega))); have hsy := Nat.lt_of_lt_of_le hsx hbx.size; clear g3 hbx)
          refine ⟨⟨2, by omega, by go_num, ?_⟩, by first | (simp [intOf]; done) | (simp [intOf]; omega)⟩
          exact ⟨mfar G0.out (by omega) _ _ _ _, mfar G1.out (by omega) _ _ _ _, mfar G2.out (by omega) _ _ _ _, ⟨_, rfl, set4_blk G3.out _ _ _ _⟩, mbelow GB.out (by omega) _ _ _ _, by simp only [World.size_setCell]; exact hsy⟩
        · go_wp2_with fail
          refine ⟨⟨2, by omega, by go_num, HM.out⟩, by first | (simp [intOf]; done) | (simp [intOf]; omega)⟩
    · have hM : MulAt w n1 n2 a b 47 45 4 wr := HM.out
      obtain ⟨h0, h1, h2, ⟨s, hs, h3⟩, hbw, hsz⟩ := hM
      rw [hall.out] at hs
      subst hs
      obtain ⟨c0, c1, c2, c3, c4, c5⟩ := blk5 h0
      obtain ⟨d0, d1, d2, d3, d4, d5⟩ := blk5 h1
      obtain ⟨f0, f1, f2, f3, f4, f5⟩ := blk5 h2
      obtain ⟨e0, e1, e2, e3, e4⟩ := cells4 h3
      have HB := Lib.hid hbw
      clear h0 h1 h2 h3 hbw c5 d5 hall
      go_wp2_with fail
      refine bodyPost_ret (v := wd (n1 != n2) (a * b)) (by simp [results, Tryz.results158, go_sem, f0, f1, f2, f3, f4]; cases n1 <;> cases n2 <;> rfl) rfl ⟨rfl, ?_⟩
      have hbw := HB.out
      exact ((((hbw.setCell (p := ⟨w.heap.size + 1 + 1, 0, none⟩) (by show w.heap.size ≤ w.heap.size + 1 + 1; omega) _).setCell (p := ⟨w.heap.size + 1 + 1, 1, none⟩) (by show w.heap.size ≤ w.heap.size + 1 + 1; omega) _).setCell (p := ⟨w.heap.size + 1 + 1, 2, none⟩) (by show w.heap.size ≤ w.heap.size + 1 + 1; omega) _).setCell (p := ⟨w.heap.size + 1 + 1, 3, none⟩) (by show w.heap.size ≤ w.heap.size + 1 + 1; omega) _).setCell (p := ⟨w.heap.size + 1 + 1, 4, none⟩) (by show w.heap.size ≤ w.heap.size + 1 + 1; omega) _
end Go.Proofs.YtbjjgnaojoaoiaaGreat
/- the reference's quotient. -/
namespace Go.Proofs.YtbjjgnaojoaoiaaGreat
open Go.RowKit Go
set_option linter.unusedVariables false
set_option linter.unusedSimpArgs false

theorem of_neg1 (w : World) : Calls Tryz.prog 16 #[.int .i64 (-1)] w fun e w' => e = .returned (wd true 1) ∧ Below w.heap.size w w' := of_any (-1) w (by omega)

/-- Behind the bits from j on. -/
def DivAt (w : World) (n : Bool) (m c : Int) (T D : Nat) (i r : Value) (wr : World) : Prop :=
  ∃ (j : Nat) (K R : Int), j ≤ 128 ∧ i = .int .i64 ((j : Int) - 1) ∧ r = .int .u64 R ∧ 0 ≤ R ∧ R < c ∧ 0 ≤ K ∧ Hid (m / 2 ^ j = K * c + R) ∧
  Hid (wr.heap[w.heap.size]? = some (.cells #[.bool n, .int .u64 (dg 0 m), .int .u64 (dg 1 m), .int .u64 (dg 2 m), .int .u64 (dg 3 m)] T (0, 0)) ∧
  wr.heap[w.heap.size + 1]? = some (.cells #[.bool false, .int .u64 0, .int .u64 0, .int .u64 0, .int .u64 0] T (0, 0)) ∧
  (∃ s, s = K * 2 ^ j ∧ wr.heap[w.heap.size + 1 + 1]? = some (.cells #[.int .u64 (dg 0 s), .int .u64 (dg 1 s), .int .u64 (dg 2 s), .int .u64 (dg 3 s)] D (0, 0)))) ∧
  Below w.heap.size w wr ∧ w.heap.size + 1 + 1 < wr.heap.size

theorem div_start (w : World) (n : Bool) (m c : Int) (T D : Nat) (hm : 0 ≤ m ∧ m < big) (hc : 1 ≤ c) : DivAt w n m c T D (.int .i64 127) (.int .u64 0)
    (((w.alloc (.cells #[.bool n, .int .u64 (dg 0 m), .int .u64 (dg 1 m), .int .u64 (dg 2 m), .int .u64 (dg 3 m)] T)).alloc (.cells #[.bool false, .int .u64 0, .int .u64 0, .int .u64 0, .int .u64 0] T)).alloc (.cells #[.int .u64 0, .int .u64 0, .int .u64 0, .int .u64 0] D)) := by
  have e0 : dg 0 0 = 0 ∧ dg 1 0 = 0 ∧ dg 2 0 = 0 ∧ dg 3 0 = 0 := by decide
  refine ⟨128, 0, 0, by omega, rfl, rfl, by omega, by omega, by omega, ?_, ⟨?_, ?_, ⟨0, by simp, ?_⟩⟩, (by repeat' (first | (with_reducible exact Below.refl _ _) | (with_reducible refine Below.alloc ?_ ?_ _) | (with_reducible refine below_drewN ?_ _) | (with_reducible refine Below.drew ?_) | (with_reducible refine Below.setCell ?_ ?_ _) | (with_reducible refine Below.trans ?_ (Below.mono HW0.out ?_)) | (with_reducible refine Below.trans ?_ (Below.mono HW1.out ?_)) | (with_reducible refine Below.trans ?_ (Below.mono HW2.out ?_)) | (with_reducible refine Below.trans ?_ (Below.mono HW3.out ?_)) | (with_reducible refine Below.trans ?_ (Below.mono HW4.out ?_)) | (with_reducible refine Below.trans ?_ (Below.mono HW5.out ?_)) | (with_reducible refine Below.trans ?_ (Below.mono HW6.out ?_)) | (with_reducible refine Below.trans ?_ (Below.mono HW7.out ?_)) | (with_reducible exact Nat.le_refl _) | omega | (simp only [World.size_alloc, World.size_setCell, World.size_drew, size_drewN]; omega) | (simp; done) | (simp; omega))), by simp⟩
  · show _ = _
    rw [show (2 : Int) ^ 128 = big by unfold big; rfl, Int.ediv_eq_zero_of_lt hm.1 hm.2]; omega
  · exact blk_alloc (blk_alloc (blk_new w _ rfl) _) _
  · exact blk_alloc (blk_new _ _ (by simp)) _
  · rw [e0.1, e0.2.1, e0.2.2.1, e0.2.2.2]; exact blk_new _ _ (by simp)

theorem q_le {m c K R : Int} {j : Nat} (hm : 0 ≤ m) (hc : 1 ≤ c) (hR : 0 ≤ R) (hK : 0 ≤ K) (h : Hid (m / 2 ^ j = K * c + R)) : 0 ≤ K * 2 ^ j ∧ K * 2 ^ j ≤ m := by
  have p : (0 : Int) < 2 ^ j := Int.pow_pos (by omega)
  refine ⟨Int.mul_nonneg hK (by omega), ?_⟩
  have h1 : K ≤ m / 2 ^ j := by
    rw [h.out]
    have : K * 1 ≤ K * c := Int.mul_le_mul_of_nonneg_left hc hK
    omega
  have := (Int.le_ediv_iff_mul_le p).1 h1
  exact this

theorem wdiv_loop_bit {m c K R : Int} {d e : Nat} (hd : d ≤ 3) (he : e < 32) (hm : 0 ≤ m) (h : Hid (m / 2 ^ (32 * d + e + 1) = K * c + R)) :
    ∃ b P S : Int, Hid (dg d m / P = S) ∧ 0 ≤ S ∧ Hid (S % 2 = b) ∧ (0 ≤ b ∧ b ≤ 1) ∧ Hid (2 ^ e = P) ∧ 0 ≤ P ∧ Hid (m / 2 ^ (32 * d + e) = 2 * (K * c + R) + b) ∧ Hid ((2 : Int) ^ (32 * d + e) = P * wt d) := by
  refine ⟨dg d m / 2 ^ e % 2, 2 ^ e, dg d m / 2 ^ e, rfl, Int.ediv_nonneg (dg_bd d m).1 (Int.le_of_lt (Int.pow_pos (by omega))), rfl, by omega, rfl, Int.le_of_lt (Int.pow_pos (by omega)), ?_, ?_⟩
  · show _ = _
    rw [bit_dg hd he, ← h.out]; exact half_pow m _ hm
  · show _ = _
    rw [wt_pow, ← Int.pow_add, Nat.add_comm]

theorem div_hid {p : Prop} (h : p) : Hid p := h

theorem quo_rem {p q r c : Int} (h : p = q * c + r) (h0 : 0 ≤ r) (h1 : r < c) : p / c = q ∧ p % c = r := by
  have hc : 0 < c := by omega
  have a := (Int.le_ediv_iff_mul_le hc).2 (show q * c ≤ p by omega)
  have b := (Int.ediv_lt_iff_lt_mul (a := p) (b := q + 1) hc).2 (by rw [Int.add_mul]; omega)
  have e : p / c = q := by omega
  refine ⟨e, ?_⟩
  have := Int.mul_ediv_add_emod p c
  rw [e, Int.mul_comm] at this; omega

theorem far5 {w : World} {g g' : Nat} {o : Obj} (h : w.heap[g]? = some o) (hp : g ≠ g') (u0 u1 u2 u3 u4 : Value) : (((((w.setCell ⟨g', 0, none⟩ u0).setCell ⟨g', 1, none⟩ u1).setCell ⟨g', 2, none⟩ u2).setCell ⟨g', 3, none⟩ u3).setCell ⟨g', 4, none⟩ u4).heap[g]? = some o :=
  blk_far (p := ⟨g', 4, none⟩) (blk_far (p := ⟨g', 3, none⟩) (blk_far (p := ⟨g', 2, none⟩) (blk_far (p := ⟨g', 1, none⟩) (blk_far (p := ⟨g', 0, none⟩) h hp _) hp _) hp _) hp _) hp _

/-- Behind the loop. -/
def DivEnd (w : World) (n : Bool) (m c : Int) (T D : Nat) (r : Value) (wr : World) : Prop :=
  r = .int .u64 (m % c) ∧ Hid (wr.heap[w.heap.size]? = some (.cells #[.bool n, .int .u64 (dg 0 m), .int .u64 (dg 1 m), .int .u64 (dg 2 m), .int .u64 (dg 3 m)] T (0, 0)) ∧
  wr.heap[w.heap.size + 1]? = some (.cells #[.bool false, .int .u64 0, .int .u64 0, .int .u64 0, .int .u64 0] T (0, 0)) ∧
  wr.heap[w.heap.size + 1 + 1]? = some (.cells #[.int .u64 (dg 0 (m / c)), .int .u64 (dg 1 (m / c)), .int .u64 (dg 2 (m / c)), .int .u64 (dg 3 (m / c))] D (0, 0))) ∧
  Below w.heap.size w wr ∧ w.heap.size + 1 + 1 < wr.heap.size

theorem div_end {w : World} {n : Bool} {m c K R : Int} {T D : Nat} {wr : World} (hR0 : 0 ≤ R) (hR1 : R < c) (HK : Hid (m / 2 ^ 0 = K * c + R))
    (HB : Hid (wr.heap[w.heap.size]? = some (.cells #[.bool n, .int .u64 (dg 0 m), .int .u64 (dg 1 m), .int .u64 (dg 2 m), .int .u64 (dg 3 m)] T (0, 0)) ∧
      wr.heap[w.heap.size + 1]? = some (.cells #[.bool false, .int .u64 0, .int .u64 0, .int .u64 0, .int .u64 0] T (0, 0)) ∧
      (∃ s, s = K * 2 ^ 0 ∧ wr.heap[w.heap.size + 1 + 1]? = some (.cells #[.int .u64 (dg 0 s), .int .u64 (dg 1 s), .int .u64 (dg 2 s), .int .u64 (dg 3 s)] D (0, 0)))))
    (hbw : Below w.heap.size w wr) (hsz : w.heap.size + 1 + 1 < wr.heap.size) : DivEnd w n m c T D (.int .u64 R) wr := by
  have hm : m = K * c + R := by have := HK.out; simpa using this
  obtain ⟨e1, e2⟩ := quo_rem hm hR0 hR1
  obtain ⟨h0, h1, s, hs, h3⟩ := HB.out
  rw [show s = m / c by rw [hs, e1]; simp] at h3
  exact ⟨by rw [e2], ⟨h0, h1, h3⟩, hbw, hsz⟩

/-- A floor quotient as a wide number. -/
def DivRes (n : Bool) (m c : Int) (w : World) (e : Ending) (w' : World) : Prop :=
  (∃ n' q, e = .returned (.tuple #[wd n' q, .int .i64 (wz n m % c)]) ∧ 0 ≤ q ∧ q ≤ m ∧ Hid (wz n' q = wz n m / c)) ∧ Below w.heap.size w w'

theorem floor_plain {n : Bool} {m c : Int} (hm : 0 ≤ m) (hc : 1 ≤ c) (h : ¬ (n = true ∧ 0 < m % c)) : wz n (m / c) = wz n m / c ∧ m % c = wz n m % c := by
  cases n
  · exact ⟨rfl, rfl⟩
  · have h0 : m % c = 0 := by
      have := Int.emod_nonneg m (show c ≠ 0 by omega)
      have : ¬ 0 < m % c := fun g => h ⟨rfl, g⟩
      omega
    have e := Int.mul_ediv_add_emod m c
    obtain ⟨f1, f2⟩ := quo_rem (p := -m) (q := -(m / c)) (r := 0) (c := c) (by rw [Int.neg_mul, Int.mul_comm]; omega) (by omega) (by omega)
    simp only [wz, if_pos]
    exact ⟨f1.symm, by rw [f2, h0]⟩
theorem floor_up {m c : Int} (hm : 0 ≤ m) (hc : 1 ≤ c) (h : 0 < m % c) : -(m / c) + -1 = wz true m / c ∧ c - m % c = wz true m % c ∧ m / c + 1 ≤ m := by
  have e := Int.mul_ediv_add_emod m c
  have h1 := Int.emod_lt_of_pos m (show 0 < c by omega)
  obtain ⟨f1, f2⟩ := quo_rem (p := -m) (q := -(m / c) + -1) (r := c - m % c) (c := c) (by rw [Int.add_mul, Int.neg_mul, Int.mul_comm (m / c)]; omega) (by omega) (by omega)
  have h2 : 0 ≤ m / c := Int.ediv_nonneg hm (by omega)
  have h3 : m / c * 1 ≤ m / c * c := Int.mul_le_mul_of_nonneg_left hc h2
  have h4 : m / c * c = c * (m / c) := Int.mul_comm _ _
  simp only [wz, if_pos]
  exact ⟨f1.symm, f2.symm, by omega⟩

set_option maxHeartbeats 1600000 in
set_option maxRecDepth 100000 in
theorem wdiv_any (n : Bool) (m c : Int) (w : World) (hm0 : 0 ≤ m) (hm1 : m < big) (hc0 : 1 ≤ c) (hc1 : c ≤ 4611686018427387904) :
    Calls Tryz.prog 159 #[wd n m, .int .i64 c] w (DivRes n m c w) := by
  go_enter Tryz.func159, Tryz.ntmps159
  go_upto_block 0 with fail
  go_cut [7] (fun s7 wc => DivEnd w n m c 47 45 s7 wc)
  case first =>
    go_wp2_with fail
    go_loopw [8, 7] (fun i r wr => DivAt w n m c 47 45 i r wr) (fun i _ _ => (intOf i + 1).toNat)
    case atStart => exact div_start w n m c _ _ ⟨hm0, hm1⟩ hc0
    case round =>
      obtain ⟨j, K, R, hj, rfl, rfl, hR0, hR1, hK, HK, HB, hbw, hsz⟩ := hrel
      rcases j with _ | i
      · have e1 : ((0 : Nat) : Int) - 1 = -1 := rfl
        rw [e1]; clear e1
        go_wp2_with fail
        go_meet
        exact div_end hR0 hR1 HK HB hbw hsz
      · obtain ⟨d, e, hd, he, hi⟩ : ∃ d e : Nat, d ≤ 3 ∧ e < 32 ∧ i = 32 * d + e := ⟨i / 32, i % 32, by omega, by omega, by omega⟩
        subst hi
        obtain ⟨b, P, S, HSS, hS0, Hb, hb, HP, hP0, HM, HW⟩ := wdiv_loop_bit hd he hm0 HK
        obtain ⟨h0, h1, s, hs, h3⟩ := HB.out
        have hroom := dg_room hd he K hK
        rw [← hs, HP.out] at hroom
        have hdb := dg_bd d s
        have hq := q_le hm0 hc0 hR0 hK HK
        rw [← hs] at hq
        have HS := Lib.hid hs; clear hs
        obtain ⟨I, hI⟩ : ∃ I : Int, ((32 * d + e + 1 : Nat) : Int) - 1 = I := ⟨_, rfl⟩
        rw [hI]
        have hI0 : 0 ≤ I ∧ I ≤ 127 := by omega
        have qe : I % 32 = (e : Int) := by omega
        have qd : I / 32 = (d : Int) := by omega
        have HI := Lib.hid hI; clear hI
        obtain ⟨c0, c1, c2, c3, c4, c5⟩ := blk5 h0
        obtain ⟨e0, e1, e2, e3, e4⟩ := cells4 h3
        clear h0 h1 h3 c5
        have qb := Hb.out
        have qs := HSS.out
        have qp := HP.out
        have h23 : d = 0 ∨ d = 1 ∨ d = 2 ∨ d = 3 := by omega
        rcases h23 with rfl | rfl | rfl | rfl
        · have qd : I / 32 = 0 := qd
          by_cases hge : c ≤ 2 * R + b
          · go_wp2_with fail
            refine ⟨⟨32 * 0 + e, 2 * K + 1, 2 * R + b - c, by omega, ?_, rfl, by omega, by omega, by omega, div_hid ((div_step HM.out hb ⟨hR0, hR1⟩).1 hge), ?_, ?_, ?_⟩, by first | (simp [intOf]; done) | (simp [intOf]; omega)⟩
            · have := HI.out; rw [show I - 1 = ((32 * 0 + e : Nat) : Int) - 1 by omega]
            · have hb3 := HB.out
              obtain ⟨h0, h1, s', hs', h3⟩ := hb3
              rw [← HS.out] at hs'; rw [hs'] at h3
              obtain ⟨f0, f1, f2, f3⟩ := dg_add0 (Q := s) (P := P) hq.1 (by omega) hP0 hroom
              refine ⟨blk_far h0 (by show w.heap.size ≠ w.heap.size + 1 + 1; omega) _, blk_far h1 (by show w.heap.size + 1 ≠ w.heap.size + 1 + 1; omega) _, (2 * K + 1) * 2 ^ (32 * 0 + e), rfl, ?_⟩
              rw [show (2 * K + 1) * 2 ^ (32 * 0 + e) = s + P * wt 0 by rw [HS.out, Int.add_mul, Int.one_mul, HW.out, Int.pow_succ, HW.out, Int.mul_comm 2 K, Int.mul_assoc K 2, Int.mul_comm 2], f0, f1, f2, f3]
              exact blk_set h3 _ _
            · exact hbw.setCell (p := ⟨w.heap.size + 1 + 1, 0, none⟩) (by show w.heap.size ≤ w.heap.size + 1 + 1; omega) _
            · simp only [World.size_setCell]; exact hsz
          · go_wp2_with fail
            refine ⟨⟨32 * 0 + e, 2 * K, 2 * R + b, by omega, ?_, rfl, by omega, by omega, by omega, div_hid ((div_step HM.out hb ⟨hR0, hR1⟩).2 (by omega)), ?_, ?_, ?_⟩, by first | (simp [intOf]; done) | (simp [intOf]; omega)⟩
            · have := HI.out; rw [show I - 1 = ((32 * 0 + e : Nat) : Int) - 1 by omega]
            · have hb3 := HB.out
              obtain ⟨h0, h1, s', hs', h3⟩ := hb3
              refine ⟨h0, h1, s', ?_, h3⟩
              rw [hs', Int.pow_succ, ← Int.mul_assoc, Int.mul_comm (K * _) 2, Int.mul_assoc 2]
            · exact hbw
            · exact hsz
        · have qd : I / 32 = 1 := qd
          by_cases hge : c ≤ 2 * R + b
          · go_wp2_with fail
            refine ⟨⟨32 * 1 + e, 2 * K + 1, 2 * R + b - c, by omega, ?_, rfl, by omega, by omega, by omega, div_hid ((div_step HM.out hb ⟨hR0, hR1⟩).1 hge), ?_, ?_, ?_⟩, by first | (simp [intOf]; done) | (simp [intOf]; omega)⟩
            · have := HI.out; rw [show I - 1 = ((32 * 1 + e : Nat) : Int) - 1 by omega]
            · have hb3 := HB.out
              obtain ⟨h0, h1, s', hs', h3⟩ := hb3
              rw [← HS.out] at hs'; rw [hs'] at h3
              obtain ⟨f0, f1, f2, f3⟩ := dg_add1 (Q := s) (P := P) hq.1 (by omega) hP0 hroom
              refine ⟨blk_far h0 (by show w.heap.size ≠ w.heap.size + 1 + 1; omega) _, blk_far h1 (by show w.heap.size + 1 ≠ w.heap.size + 1 + 1; omega) _, (2 * K + 1) * 2 ^ (32 * 1 + e), rfl, ?_⟩
              rw [show (2 * K + 1) * 2 ^ (32 * 1 + e) = s + P * wt 1 by rw [HS.out, Int.add_mul, Int.one_mul, HW.out, Int.pow_succ, HW.out, Int.mul_comm 2 K, Int.mul_assoc K 2, Int.mul_comm 2], f0, f1, f2, f3]
              exact blk_set h3 _ _
            · exact hbw.setCell (p := ⟨w.heap.size + 1 + 1, 1, none⟩) (by show w.heap.size ≤ w.heap.size + 1 + 1; omega) _
            · simp only [World.size_setCell]; exact hsz
          · go_wp2_with fail
            refine ⟨⟨32 * 1 + e, 2 * K, 2 * R + b, by omega, ?_, rfl, by omega, by omega, by omega, div_hid ((div_step HM.out hb ⟨hR0, hR1⟩).2 (by omega)), ?_, ?_, ?_⟩, by first | (simp [intOf]; done) | (simp [intOf]; omega)⟩
            · have := HI.out; rw [show I - 1 = ((32 * 1 + e : Nat) : Int) - 1 by omega]
            · have hb3 := HB.out
              obtain ⟨h0, h1, s', hs', h3⟩ := hb3
              refine ⟨h0, h1, s', ?_, h3⟩
              rw [hs', Int.pow_succ, ← Int.mul_assoc, Int.mul_comm (K * _) 2, Int.mul_assoc 2]
            · exact hbw
            · exact hsz
        · have qd : I / 32 = 2 := qd
          by_cases hge : c ≤ 2 * R + b
          · go_wp2_with fail
            refine ⟨⟨32 * 2 + e, 2 * K + 1, 2 * R + b - c, by omega, ?_, rfl, by omega, by omega, by omega, div_hid ((div_step HM.out hb ⟨hR0, hR1⟩).1 hge), ?_, ?_, ?_⟩, by first | (simp [intOf]; done) | (simp [intOf]; omega)⟩
            · have := HI.out; rw [show I - 1 = ((32 * 2 + e : Nat) : Int) - 1 by omega]
            · have hb3 := HB.out
              obtain ⟨h0, h1, s', hs', h3⟩ := hb3
              rw [← HS.out] at hs'; rw [hs'] at h3
              obtain ⟨f0, f1, f2, f3⟩ := dg_add2 (Q := s) (P := P) hq.1 (by omega) hP0 hroom
              refine ⟨blk_far h0 (by show w.heap.size ≠ w.heap.size + 1 + 1; omega) _, blk_far h1 (by show w.heap.size + 1 ≠ w.heap.size + 1 + 1; omega) _, (2 * K + 1) * 2 ^ (32 * 2 + e), rfl, ?_⟩
              rw [show (2 * K + 1) * 2 ^ (32 * 2 + e) = s + P * wt 2 by rw [HS.out, Int.add_mul, Int.one_mul, HW.out, Int.pow_succ, HW.out, Int.mul_comm 2 K, Int.mul_assoc K 2, Int.mul_comm 2], f0, f1, f2, f3]
              exact blk_set h3 _ _
            · exact hbw.setCell (p := ⟨w.heap.size + 1 + 1, 2, none⟩) (by show w.heap.size ≤ w.heap.size + 1 + 1; omega) _
            · simp only [World.size_setCell]; exact hsz
          · go_wp2_with fail
            refine ⟨⟨32 * 2 + e, 2 * K, 2 * R + b, by omega, ?_, rfl, by omega, by omega, by omega, div_hid ((div_step HM.out hb ⟨hR0, hR1⟩).2 (by omega)), ?_, ?_, ?_⟩, by first | (simp [intOf]; done) | (simp [intOf]; omega)⟩
            · have := HI.out; rw [show I - 1 = ((32 * 2 + e : Nat) : Int) - 1 by omega]
            · have hb3 := HB.out
              obtain ⟨h0, h1, s', hs', h3⟩ := hb3
              refine ⟨h0, h1, s', ?_, h3⟩
              rw [hs', Int.pow_succ, ← Int.mul_assoc, Int.mul_comm (K * _) 2, Int.mul_assoc 2]
            · exact hbw
            · exact hsz
        · have qd : I / 32 = 3 := qd
          by_cases hge : c ≤ 2 * R + b
          · go_wp2_with fail
            refine ⟨⟨32 * 3 + e, 2 * K + 1, 2 * R + b - c, by omega, ?_, rfl, by omega, by omega, by omega, div_hid ((div_step HM.out hb ⟨hR0, hR1⟩).1 hge), ?_, ?_, ?_⟩, by first | (simp [intOf]; done) | (simp [intOf]; omega)⟩
            · have := HI.out; rw [show I - 1 = ((32 * 3 + e : Nat) : Int) - 1 by omega]
            · have hb3 := HB.out
              obtain ⟨h0, h1, s', hs', h3⟩ := hb3
              rw [← HS.out] at hs'; rw [hs'] at h3
              obtain ⟨f0, f1, f2, f3⟩ := dg_add3 (Q := s) (P := P) hq.1 (by omega) hP0 hroom
              refine ⟨blk_far h0 (by show w.heap.size ≠ w.heap.size + 1 + 1; omega) _, blk_far h1 (by show w.heap.size + 1 ≠ w.heap.size + 1 + 1; omega) _, (2 * K + 1) * 2 ^ (32 * 3 + e), rfl, ?_⟩
              rw [show (2 * K + 1) * 2 ^ (32 * 3 + e) = s + P * wt 3 by rw [HS.out, Int.add_mul, Int.one_mul, HW.out, Int.pow_succ, HW.out, Int.mul_comm 2 K, Int.mul_assoc K 2, Int.mul_comm 2], f0, f1, f2, f3]
              exact blk_set h3 _ _
            · exact hbw.setCell (p := ⟨w.heap.size + 1 + 1, 3, none⟩) (by show w.heap.size ≤ w.heap.size + 1 + 1; omega) _
            · simp only [World.size_setCell]; exact hsz
          · go_wp2_with fail
            refine ⟨⟨32 * 3 + e, 2 * K, 2 * R + b, by omega, ?_, rfl, by omega, by omega, by omega, div_hid ((div_step HM.out hb ⟨hR0, hR1⟩).2 (by omega)), ?_, ?_, ?_⟩, by first | (simp [intOf]; done) | (simp [intOf]; omega)⟩
            · have := HI.out; rw [show I - 1 = ((32 * 3 + e : Nat) : Int) - 1 by omega]
            · have hb3 := HB.out
              obtain ⟨h0, h1, s', hs', h3⟩ := hb3
              refine ⟨h0, h1, s', ?_, h3⟩
              rw [hs', Int.pow_succ, ← Int.mul_assoc, Int.mul_comm (K * _) 2, Int.mul_assoc 2]
            · exact hbw
            · exact hsz
  case rest =>
    obtain ⟨rfl, HB, hbw, hsz⟩ := hcut
    have HBW := Lib.hid hbw; clear hbw
    obtain ⟨h0, h1, h3⟩ := HB.out
    have hs0 : w.heap.size < wc.heap.size := by omega
    have hs1 : w.heap.size + 1 < wc.heap.size := by omega
    obtain ⟨c0, c1, c2, c3, c4, c5⟩ := blk5 h0
    obtain ⟨d0, d1, d2, d3, d4, d5⟩ := blk5 h1
    obtain ⟨e0, e1, e2, e3, e4⟩ := cells4 h3
    clear h0 h1 h3 c5 e4
    have hn1 : wc.heap.size ≠ w.heap.size + 1 := by omega
    have hn2 : w.heap.size + 1 ≠ wc.heap.size := by omega
    have hq0 : 0 ≤ m / c := Int.ediv_nonneg hm0 (by omega)
    have hq1 : m / c ≤ m := by
      have e := Int.mul_ediv_add_emod m c
      have g := Int.emod_nonneg m (show c ≠ 0 by omega)
      have h3 : m / c * 1 ≤ m / c * c := Int.mul_le_mul_of_nonneg_left hc0 hq0
      have h4 : m / c * c = c * (m / c) := Int.mul_comm _ _
      omega
    obtain ⟨R, hR⟩ : ∃ R, m % c = R := ⟨_, rfl⟩
    have hR0 : 0 ≤ R := by rw [← hR]; exact Int.emod_nonneg m (by omega)
    have hR1 : R < c := by rw [← hR]; exact Int.emod_lt_of_pos m (by omega)
    rw [hR]
    have HR := Lib.hid hR; clear hR
    by_cases hn : n = true ∧ 0 < R
    · obtain ⟨rfl, hRp⟩ := hn
      have HF := Lib.hid (floor_up hm0 hc0 (show 0 < m % c by rw [HR.out]; exact hRp))
      go_wp2_with (go_at_call 16; refine (of_neg1 _).mono ?_; rintro e w1 ⟨rfl, hw1⟩; have HG := Lib.hid (blk_below (blk_new wc (.cells #[.bool true, .int .u64 (dg 0 (m / c)), .int .u64 (dg 1 (m / c)), .int .u64 (dg 2 (m / c)), .int .u64 (dg 3 (m / c))] 47) rfl) hw1 (by simp)); have HR1 := Lib.hid (blk_below (blk_alloc HB.out.2.1 _) hw1 (by simp; omega)); have hz1 := hw1.size; simp only [World.size_alloc, Nat.add_one_le_iff] at hz1; have HW1 := Lib.hid hw1; clear hw1; clear c0 c1 c2 c3 c4 d0 d1 d2 d3 d4 d5 e0 e1 e2 e3; obtain ⟨c0, c1, c2, c3, c4, c5⟩ := blk5 HG.out)
      refine (wadd_any true true (m / c) 1 _ hq0 (by omega) (by have := HF.out.2.2; omega)).mono ?_
      intro e w2 h2; obtain ⟨n2, m2, rfl, hm20, hm21, hwz2, hw2⟩ := Wide.pre h2; clear h2
      have g1 := blk_below (blk_alloc HG.out _) hw2 (by simp; omega)
      have g2 := blk_below (blk_alloc HR1.out _) hw2 (by simp; omega)
      have hz2 := hw2.size
      simp only [World.size_alloc, Nat.add_one_le_iff] at hz2
      clear c0 c1 c2 c3 c4 c5
      obtain ⟨c0, c1, c2, c3, c4, c5⟩ := blk5 g1
      have HW2 := Lib.hid hw2
      have G1 := Lib.hid g1; have G2 := Lib.hid g2
      clear g1 g2 hw2
      go_upto_region 15 with fail
      have x1 := set5_blk G1.out (.bool n2) (.int .u64 (dg 0 m2)) (.int .u64 (dg 1 m2)) (.int .u64 (dg 2 m2)) (.int .u64 (dg 3 m2))
      have x2 := far5 G2.out hn2 (.bool n2) (.int .u64 (dg 0 m2)) (.int .u64 (dg 1 m2)) (.int .u64 (dg 2 m2)) (.int .u64 (dg 3 m2))
      have hw3 : Below w.heap.size w (((((w2.setCell ⟨wc.heap.size, 0, none⟩ (.bool n2)).setCell ⟨wc.heap.size, 1, none⟩ (.int .u64 (dg 0 m2))).setCell ⟨wc.heap.size, 2, none⟩ (.int .u64 (dg 1 m2))).setCell ⟨wc.heap.size, 3, none⟩ (.int .u64 (dg 2 m2))).setCell ⟨wc.heap.size, 4, none⟩ (.int .u64 (dg 3 m2))) := by
        have := HBW.out.size
        repeat' (first | (with_reducible exact Below.refl _ _) | (with_reducible refine Below.alloc ?_ ?_ _) | (with_reducible refine below_drewN ?_ _) | (with_reducible refine Below.drew ?_) | (with_reducible refine Below.setCell ?_ ?_ _) | (with_reducible refine Below.trans ?_ (Below.mono HBW.out ?_)) | (with_reducible refine Below.trans ?_ (Below.mono HW0.out ?_)) | (with_reducible refine Below.trans ?_ (Below.mono HW1.out ?_)) | (with_reducible refine Below.trans ?_ (Below.mono HW2.out ?_)) | (with_reducible refine Below.trans ?_ (Below.mono HW3.out ?_)) | (with_reducible refine Below.trans ?_ (Below.mono HW4.out ?_)) | (with_reducible refine Below.trans ?_ (Below.mono HW5.out ?_)) | (with_reducible refine Below.trans ?_ (Below.mono HW6.out ?_)) | (with_reducible refine Below.trans ?_ (Below.mono HW7.out ?_)) | (with_reducible exact Nat.le_refl _) | omega | (simp only [World.size_alloc, World.size_setCell, World.size_drew, size_drewN]; omega) | (simp; done) | (simp; omega))
      clear c0 c1 c2 c3 c4 c5
      generalize (((((w2.setCell ⟨wc.heap.size, 0, none⟩ (.bool n2)).setCell ⟨wc.heap.size, 1, none⟩ (.int .u64 (dg 0 m2))).setCell ⟨wc.heap.size, 2, none⟩ (.int .u64 (dg 1 m2))).setCell ⟨wc.heap.size, 3, none⟩ (.int .u64 (dg 2 m2))).setCell ⟨wc.heap.size, 4, none⟩ (.int .u64 (dg 3 m2))) = w3 at x1 x2 hw3 ⊢
      obtain ⟨c0, c1, c2, c3, c4, c5⟩ := blk5 x1
      obtain ⟨d0, d1, d2, d3, d4, d5⟩ := blk5 x2
      have HW3 := Lib.hid hw3
      clear x1 x2 hw3
      go_wp2_with fail
      refine bodyPost_ret (v := .tuple #[wd n2 m2, .int .i64 (c - R)]) (by simp [results, Tryz.results159, go_sem, d0, d1, d2, d3, d4]) rfl ?_
      obtain ⟨f1, f2, f3⟩ := HF.out
      refine ⟨⟨n2, m2, by rw [← f2, HR.out], hm20, by omega, ?_⟩, ?_⟩
      · show _ = _; rw [hwz2.out, ← f1]; simp [wz]
      · have hb := HW3.out
        repeat' (first | (with_reducible exact Below.refl _ _) | (with_reducible exact hb) | (with_reducible refine Below.alloc ?_ ?_ _) | (with_reducible refine below_drewN ?_ _) | (with_reducible refine Below.drew ?_) | (with_reducible refine Below.setCell ?_ ?_ _) | (with_reducible refine Below.trans ?_ (Below.mono HBW.out ?_)) | (with_reducible refine Below.trans ?_ (Below.mono HW0.out ?_)) | (with_reducible refine Below.trans ?_ (Below.mono HW1.out ?_)) | (with_reducible refine Below.trans ?_ (Below.mono HW2.out ?_)) | (with_reducible refine Below.trans ?_ (Below.mono HW3.out ?_)) | (with_reducible refine Below.trans ?_ (Below.mono HW4.out ?_)) | (with_reducible refine Below.trans ?_ (Below.mono HW5.out ?_)) | (with_reducible refine Below.trans ?_ (Below.mono HW6.out ?_)) | (with_reducible refine Below.trans ?_ (Below.mono HW7.out ?_)) | (with_reducible exact Nat.le_refl _) | omega | (simp only [World.size_alloc, World.size_setCell, World.size_drew, size_drewN]; omega) | (simp; done) | (simp; omega))
    · have HF := Lib.hid (floor_plain hm0 hc0 (n := n) (by rw [HR.out]; exact hn))
      have hg : (n && decide (0 < R)) = false := by
        cases n
        · rfl
        · have : ¬ 0 < R := fun g => hn ⟨rfl, g⟩
          simp; omega
      cases n
      · skip
        go_upto_region 16 with fail
        have x1 := blk_new wc (.cells #[.bool false, .int .u64 (dg 0 (m / c)), .int .u64 (dg 1 (m / c)), .int .u64 (dg 2 (m / c)), .int .u64 (dg 3 (m / c))] 47) rfl
        have x2 := blk_alloc HB.out.2.1 (.cells #[.bool false, .int .u64 (dg 0 (m / c)), .int .u64 (dg 1 (m / c)), .int .u64 (dg 2 (m / c)), .int .u64 (dg 3 (m / c))] 47)
        have hw3 := HBW.out.alloc HBW.out.size (.cells #[.bool false, .int .u64 (dg 0 (m / c)), .int .u64 (dg 1 (m / c)), .int .u64 (dg 2 (m / c)), .int .u64 (dg 3 (m / c))] 47)
        clear c0 c1 c2 c3 c4 d0 d1 d2 d3 d4 d5 e0 e1 e2 e3
        generalize wc.alloc (.cells #[.bool false, .int .u64 (dg 0 (m / c)), .int .u64 (dg 1 (m / c)), .int .u64 (dg 2 (m / c)), .int .u64 (dg 3 (m / c))] 47) = w3 at x1 x2 hw3 ⊢
        obtain ⟨c0, c1, c2, c3, c4, c5⟩ := blk5 x1
        obtain ⟨d0, d1, d2, d3, d4, d5⟩ := blk5 x2
        have HW3 := Lib.hid hw3
        clear x1 x2 hw3
        go_wp2_with fail
        refine bodyPost_ret (v := .tuple #[wd false (m / c), .int .i64 R]) (by simp [results, Tryz.results159, go_sem, d0, d1, d2, d3, d4]) rfl ?_
        obtain ⟨f1, f2⟩ := HF.out
        refine ⟨⟨false, m / c, by rw [← f2, HR.out], hq0, hq1, f1⟩, ?_⟩
        have hb := HW3.out
        repeat' (first | (with_reducible exact Below.refl _ _) | (with_reducible exact hb) | (with_reducible refine Below.alloc ?_ ?_ _) | (with_reducible refine below_drewN ?_ _) | (with_reducible refine Below.drew ?_) | (with_reducible refine Below.setCell ?_ ?_ _) | (with_reducible refine Below.trans ?_ (Below.mono HBW.out ?_)) | (with_reducible refine Below.trans ?_ (Below.mono HW0.out ?_)) | (with_reducible refine Below.trans ?_ (Below.mono HW1.out ?_)) | (with_reducible refine Below.trans ?_ (Below.mono HW2.out ?_)) | (with_reducible refine Below.trans ?_ (Below.mono HW3.out ?_)) | (with_reducible refine Below.trans ?_ (Below.mono HW4.out ?_)) | (with_reducible refine Below.trans ?_ (Below.mono HW5.out ?_)) | (with_reducible refine Below.trans ?_ (Below.mono HW6.out ?_)) | (with_reducible refine Below.trans ?_ (Below.mono HW7.out ?_)) | (with_reducible exact Nat.le_refl _) | omega | (simp only [World.size_alloc, World.size_setCell, World.size_drew, size_drewN]; omega) | (simp; done) | (simp; omega))
      · have hR2 : R ≤ 0 := by simpa using hg
        have hR3 : R = 0 := by omega
        subst hR3
        clear hg hn hR0 hR1 hR2
        go_upto_region 16 with fail
        have x1 := blk_new wc (.cells #[.bool true, .int .u64 (dg 0 (m / c)), .int .u64 (dg 1 (m / c)), .int .u64 (dg 2 (m / c)), .int .u64 (dg 3 (m / c))] 47) rfl
        have x2 := blk_alloc HB.out.2.1 (.cells #[.bool true, .int .u64 (dg 0 (m / c)), .int .u64 (dg 1 (m / c)), .int .u64 (dg 2 (m / c)), .int .u64 (dg 3 (m / c))] 47)
        have hw3 := HBW.out.alloc HBW.out.size (.cells #[.bool true, .int .u64 (dg 0 (m / c)), .int .u64 (dg 1 (m / c)), .int .u64 (dg 2 (m / c)), .int .u64 (dg 3 (m / c))] 47)
        clear c0 c1 c2 c3 c4 d0 d1 d2 d3 d4 d5 e0 e1 e2 e3
        generalize wc.alloc (.cells #[.bool true, .int .u64 (dg 0 (m / c)), .int .u64 (dg 1 (m / c)), .int .u64 (dg 2 (m / c)), .int .u64 (dg 3 (m / c))] 47) = w3 at x1 x2 hw3 ⊢
        obtain ⟨c0, c1, c2, c3, c4, c5⟩ := blk5 x1
        obtain ⟨d0, d1, d2, d3, d4, d5⟩ := blk5 x2
        have HW3 := Lib.hid hw3
        clear x1 x2 hw3
        go_wp2_with fail
        refine bodyPost_ret (v := .tuple #[wd true (m / c), .int .i64 0]) (by simp [results, Tryz.results159, go_sem, d0, d1, d2, d3, d4]) rfl ?_
        obtain ⟨f1, f2⟩ := HF.out
        refine ⟨⟨true, m / c, by rw [← f2, HR.out], hq0, hq1, f1⟩, ?_⟩
        have hb := HW3.out
        repeat' (first | (with_reducible exact Below.refl _ _) | (with_reducible exact hb) | (with_reducible refine Below.alloc ?_ ?_ _) | (with_reducible refine below_drewN ?_ _) | (with_reducible refine Below.drew ?_) | (with_reducible refine Below.setCell ?_ ?_ _) | (with_reducible refine Below.trans ?_ (Below.mono HBW.out ?_)) | (with_reducible refine Below.trans ?_ (Below.mono HW0.out ?_)) | (with_reducible refine Below.trans ?_ (Below.mono HW1.out ?_)) | (with_reducible refine Below.trans ?_ (Below.mono HW2.out ?_)) | (with_reducible refine Below.trans ?_ (Below.mono HW3.out ?_)) | (with_reducible refine Below.trans ?_ (Below.mono HW4.out ?_)) | (with_reducible refine Below.trans ?_ (Below.mono HW5.out ?_)) | (with_reducible refine Below.trans ?_ (Below.mono HW6.out ?_)) | (with_reducible refine Below.trans ?_ (Below.mono HW7.out ?_)) | (with_reducible exact Nat.le_refl _) | omega | (simp only [World.size_alloc, World.size_setCell, World.size_drew, size_drewN]; omega) | (simp; done) | (simp; omega))
end Go.Proofs.YtbjjgnaojoaoiaaGreat
