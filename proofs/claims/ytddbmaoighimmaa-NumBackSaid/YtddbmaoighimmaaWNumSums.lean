/- The walks of NumSums and NumBack. -/
import Derived.Test.YtddbmaoighimmaaL0
import Derived.Test.YtddbmaoighimmaaZ1
import Derived.Test.YtddbmaoighimmaaR3
namespace Go.Proofs.Ytddbmaoighimmaa
open Go.RowKit Go
set_option linter.unusedVariables false
set_option linter.unusedSimpArgs false

set_option maxHeartbeats 400000 in
theorem numSums_walk (a b : Int) (w : World) : Calls Try.prog 6 #[.int .i64 a, .int .i64 b] w fun e w' => e = .returned (.bool true) ∧ Below w.heap.size w w' := by
  go_enter Try.func6, Try.ntmps6
  go_wp2_with fail
  refine (awake_any w).mono ?_; rintro e w1 ⟨rfl, hw1⟩; obtain ⟨hc1, hf1⟩ := bcell hw1; have hz1 := hw1.size; (try simp only [World.size_alloc, World.size_setCell, World.size_drew, size_drewN, Nat.add_one_le_iff] at hz1); (try have hy1 : w.heap.size < w1.heap.size := by omega); (try have hx1 : w.heap.size + 1 < w1.heap.size := by omega); have HW1 := Lib.hid hw1; clear hw1
  go_wp2_with fail
  refine (add_any a b _).mono ?_; rintro e w2 ⟨rfl, hw2⟩; obtain ⟨hc2, hf2⟩ := bcell hw2; have hz2 := hw2.size; (try simp only [World.size_alloc, World.size_setCell, World.size_drew, size_drewN, Nat.add_one_le_iff] at hz2); (try have hy2 : w.heap.size < w2.heap.size := by omega); (try have hx2 : w.heap.size + 1 < w2.heap.size := by omega); have HW2 := Lib.hid hw2; clear hw2
  go_wp2_with fail
  refine (sub_any a b _).mono ?_; rintro e w3 ⟨rfl, hw3⟩; obtain ⟨hc3, hf3⟩ := bcell hw3; have hz3 := hw3.size; (try simp only [World.size_alloc, World.size_setCell, World.size_drew, size_drewN, Nat.add_one_le_iff] at hz3); (try have hy3 : w.heap.size < w3.heap.size := by omega); (try have hx3 : w.heap.size + 1 < w3.heap.size := by omega); have HW3 := Lib.hid hw3; clear hw3
  go_wp2_with fail
  refine (mul_any a b _).mono ?_; rintro e w4 ⟨rfl, hw4⟩; obtain ⟨hc4, hf4⟩ := bcell hw4; have hz4 := hw4.size; (try simp only [World.size_alloc, World.size_setCell, World.size_drew, size_drewN, Nat.add_one_le_iff] at hz4); (try have hy4 : w.heap.size < w4.heap.size := by omega); (try have hx4 : w.heap.size + 1 < w4.heap.size := by omega); have HW4 := Lib.hid hw4; clear hw4
  go_wp2_with fail
  refine (radd_any a b _).mono ?_; rintro e w5 ⟨rfl, hw5⟩; obtain ⟨hc5, hf5⟩ := bcell hw5; have hz5 := hw5.size; (try simp only [World.size_alloc, World.size_setCell, World.size_drew, size_drewN, Nat.add_one_le_iff] at hz5); (try have hy5 : w.heap.size < w5.heap.size := by omega); (try have hx5 : w.heap.size + 1 < w5.heap.size := by omega); have HW5 := Lib.hid hw5; clear hw5
  go_wp2_with fail
  refine (rsub_any a b _).mono ?_; rintro e w6 ⟨rfl, hw6⟩; obtain ⟨hc6, hf6⟩ := bcell hw6; have hz6 := hw6.size; (try simp only [World.size_alloc, World.size_setCell, World.size_drew, size_drewN, Nat.add_one_le_iff] at hz6); (try have hy6 : w.heap.size < w6.heap.size := by omega); (try have hx6 : w.heap.size + 1 < w6.heap.size := by omega); have HW6 := Lib.hid hw6; clear hw6
  go_wp2_with fail
  refine (rmul_any a b _).mono ?_; rintro e w7 ⟨rfl, hw7⟩; obtain ⟨hc7, hf7⟩ := bcell hw7; have hz7 := hw7.size; (try simp only [World.size_alloc, World.size_setCell, World.size_drew, size_drewN, Nat.add_one_le_iff] at hz7); (try have hy7 : w.heap.size < w7.heap.size := by omega); (try have hx7 : w.heap.size + 1 < w7.heap.size := by omega); have HW7 := Lib.hid hw7; clear hw7
  go_wp2_with fail
  go_ret
  exact ⟨rfl, (by repeat' (first | (with_reducible exact Below.refl _ _) | (with_reducible refine Below.alloc ?_ ?_ _) | (with_reducible refine below_drewN ?_ _) | (with_reducible refine Below.drew ?_) | (with_reducible refine Below.setCell ?_ ?_ _) | (with_reducible refine Below.trans ?_ (Below.mono HW0.out ?_)) | (with_reducible refine Below.trans ?_ (Below.mono HW1.out ?_)) | (with_reducible refine Below.trans ?_ (Below.mono HW2.out ?_)) | (with_reducible refine Below.trans ?_ (Below.mono HW3.out ?_)) | (with_reducible refine Below.trans ?_ (Below.mono HW4.out ?_)) | (with_reducible refine Below.trans ?_ (Below.mono HW5.out ?_)) | (with_reducible refine Below.trans ?_ (Below.mono HW6.out ?_)) | (with_reducible refine Below.trans ?_ (Below.mono HW7.out ?_)) | (with_reducible exact Nat.le_refl _) | omega | (simp only [World.size_alloc, World.size_setCell, World.size_drew, size_drewN]; omega) | (simp; done) | (simp; omega)))⟩

theorem fine_back {a b : Int} (ha : amt a = true) (hb : 1 ≤ b) : fine a b b := by
  have := amt_yes ha
  unfold fine
  by_cases h : 0 ≤ a
  · exact .inl (Int.mul_nonneg h (by omega))
  · refine .inr (.inl ?_)
    rw [← Int.neg_mul, Int.mul_comm]
    exact Int.mul_le_mul_of_nonneg_left (by omega) (by omega)
theorem mulDiv_back {a b : Int} (ha : amt a = true) (hb : 1 ≤ b) (hb1 : amt b = true) : mulDivS a b b = (a, 0) := by
  unfold mulDivS
  rw [if_pos (by simp [ha, hb, hb1]), Int.mul_ediv_cancel _ (by omega)]
  exact told_yes ha

set_option maxHeartbeats 800000 in
theorem numBack_walk (a b : Int) (w : World) (ha : -9223372036854775808 ≤ a ∧ a ≤ 9223372036854775807) (hb : -9223372036854775808 ≤ b ∧ b ≤ 9223372036854775807) :
    Calls Try.prog 5 #[.int .i64 a, .int .i64 b] w fun e w' => e = .returned (.bool true) ∧ Below w.heap.size w w' := by
  by_cases h : (amt a && amt b) = true ∧ amt (a + b) = true
  · have h0 : amt a = true ∧ amt b = true := by simpa using h.1
    have a1 := amt_yes h0.1; have b1 := amt_yes h0.2
    have e1 : addS a b = (a + b, 0) := by rw [addS, if_pos h.1]; exact told_yes h.2
    have e2 : subS (a + b) b = (a, 0) := by
      rw [subS, if_pos (by simp [h.2, h0.2]), show a + b - b = a by omega]; exact told_yes h0.1
    have E1 := Lib.hid e1; have E2 := Lib.hid e2
    by_cases hb1 : 1 ≤ b
    · have F := Lib.hid (fine_back h0.1 hb1)
      have G := Lib.hid (mulDiv_back h0.1 hb1 h0.2)
      clear e1 e2 h h0
      go_enter Try.func5, Try.ntmps5
      go_wp2_with fail
      refine (awake_any w).mono ?_; rintro e w1 ⟨rfl, hw1⟩; obtain ⟨hc1, hf1⟩ := bcell hw1; have hz1 := hw1.size; (try simp only [World.size_alloc, World.size_setCell, World.size_drew, size_drewN, Nat.add_one_le_iff] at hz1); (try have hy1 : w.heap.size < w1.heap.size := by omega); (try have hx1 : w.heap.size + 1 < w1.heap.size := by omega); have HW1 := Lib.hid hw1; clear hw1
      go_wp2_with fail
      refine (add_any a b _).mono ?_; rintro e w2 ⟨rfl, hw2⟩; obtain ⟨hc2, hf2⟩ := bcell hw2; have hz2 := hw2.size; (try simp only [World.size_alloc, World.size_setCell, World.size_drew, size_drewN, Nat.add_one_le_iff] at hz2); (try have hy2 : w.heap.size < w2.heap.size := by omega); (try have hx2 : w.heap.size + 1 < w2.heap.size := by omega); have HW2 := Lib.hid hw2; clear hw2
      rw [E1.out]
      go_wp2_with fail
      refine (sub_any (a + b) b _).mono ?_; rintro e w3 ⟨rfl, hw3⟩; obtain ⟨hc3, hf3⟩ := bcell hw3; have hz3 := hw3.size; (try simp only [World.size_alloc, World.size_setCell, World.size_drew, size_drewN, Nat.add_one_le_iff] at hz3); (try have hy3 : w.heap.size < w3.heap.size := by omega); (try have hx3 : w.heap.size + 1 < w3.heap.size := by omega); have HW3 := Lib.hid hw3; clear hw3
      rw [E2.out]
      go_wp2_with fail
      refine (mulDiv_any a b b _ F.out).mono ?_; rintro e w4 ⟨rfl, hw4⟩; obtain ⟨hc4, hf4⟩ := bcell hw4; have hz4 := hw4.size; (try simp only [World.size_alloc, World.size_setCell, World.size_drew, size_drewN, Nat.add_one_le_iff] at hz4); (try have hy4 : w.heap.size < w4.heap.size := by omega); (try have hx4 : w.heap.size + 1 < w4.heap.size := by omega); have HW4 := Lib.hid hw4; clear hw4
      rw [G.out]
      go_wp2_with fail
      go_ret
      exact ⟨by simp, (by repeat' (first | (with_reducible exact Below.refl _ _) | (with_reducible refine Below.alloc ?_ ?_ _) | (with_reducible refine below_drewN ?_ _) | (with_reducible refine Below.drew ?_) | (with_reducible refine Below.setCell ?_ ?_ _) | (with_reducible refine Below.trans ?_ (Below.mono HW0.out ?_)) | (with_reducible refine Below.trans ?_ (Below.mono HW1.out ?_)) | (with_reducible refine Below.trans ?_ (Below.mono HW2.out ?_)) | (with_reducible refine Below.trans ?_ (Below.mono HW3.out ?_)) | (with_reducible refine Below.trans ?_ (Below.mono HW4.out ?_)) | (with_reducible refine Below.trans ?_ (Below.mono HW5.out ?_)) | (with_reducible refine Below.trans ?_ (Below.mono HW6.out ?_)) | (with_reducible refine Below.trans ?_ (Below.mono HW7.out ?_)) | (with_reducible exact Nat.le_refl _) | omega | (simp only [World.size_alloc, World.size_setCell, World.size_drew, size_drewN]; omega) | (simp; done) | (simp; omega)))⟩
    · clear e1 e2 h h0
      go_enter Try.func5, Try.ntmps5
      go_wp2_with fail
      refine (awake_any w).mono ?_; rintro e w1 ⟨rfl, hw1⟩; obtain ⟨hc1, hf1⟩ := bcell hw1; have hz1 := hw1.size; (try simp only [World.size_alloc, World.size_setCell, World.size_drew, size_drewN, Nat.add_one_le_iff] at hz1); (try have hy1 : w.heap.size < w1.heap.size := by omega); (try have hx1 : w.heap.size + 1 < w1.heap.size := by omega); have HW1 := Lib.hid hw1; clear hw1
      go_wp2_with fail
      refine (add_any a b _).mono ?_; rintro e w2 ⟨rfl, hw2⟩; obtain ⟨hc2, hf2⟩ := bcell hw2; have hz2 := hw2.size; (try simp only [World.size_alloc, World.size_setCell, World.size_drew, size_drewN, Nat.add_one_le_iff] at hz2); (try have hy2 : w.heap.size < w2.heap.size := by omega); (try have hx2 : w.heap.size + 1 < w2.heap.size := by omega); have HW2 := Lib.hid hw2; clear hw2
      rw [E1.out]
      go_wp2_with fail
      refine (sub_any (a + b) b _).mono ?_; rintro e w3 ⟨rfl, hw3⟩; obtain ⟨hc3, hf3⟩ := bcell hw3; have hz3 := hw3.size; (try simp only [World.size_alloc, World.size_setCell, World.size_drew, size_drewN, Nat.add_one_le_iff] at hz3); (try have hy3 : w.heap.size < w3.heap.size := by omega); (try have hx3 : w.heap.size + 1 < w3.heap.size := by omega); have HW3 := Lib.hid hw3; clear hw3
      rw [E2.out]
      go_wp2_with fail
      go_ret
      exact ⟨by simp, (by repeat' (first | (with_reducible exact Below.refl _ _) | (with_reducible refine Below.alloc ?_ ?_ _) | (with_reducible refine below_drewN ?_ _) | (with_reducible refine Below.drew ?_) | (with_reducible refine Below.setCell ?_ ?_ _) | (with_reducible refine Below.trans ?_ (Below.mono HW0.out ?_)) | (with_reducible refine Below.trans ?_ (Below.mono HW1.out ?_)) | (with_reducible refine Below.trans ?_ (Below.mono HW2.out ?_)) | (with_reducible refine Below.trans ?_ (Below.mono HW3.out ?_)) | (with_reducible refine Below.trans ?_ (Below.mono HW4.out ?_)) | (with_reducible refine Below.trans ?_ (Below.mono HW5.out ?_)) | (with_reducible refine Below.trans ?_ (Below.mono HW6.out ?_)) | (with_reducible refine Below.trans ?_ (Below.mono HW7.out ?_)) | (with_reducible exact Nat.le_refl _) | omega | (simp only [World.size_alloc, World.size_setCell, World.size_drew, size_drewN]; omega) | (simp; done) | (simp; omega)))⟩
  · have E1 : Hid (addS a b = (0, 1) ∨ addS a b = (0, 2)) := by
      show _ ∨ _
      unfold addS
      by_cases g : (amt a && amt b) = true
      · rw [if_pos g]; exact .inr (told_no fun k => h ⟨g, k⟩)
      · rw [if_neg g]; exact .inl rfl
    clear h
    by_cases hin : (1 ≤ b ∧ b ≤ 4611686018427387904) ∧ (-4611686018427387904 ≤ a ∧ a ≤ 4611686018427387904)
    · obtain ⟨hb1, ha1⟩ := hin
      have a1 : amt a = true := by simp [amt]; omega
      have b1 : amt b = true := by simp [amt]; omega
      have F := Lib.hid (fine_back a1 hb1.1)
      have G := Lib.hid (mulDiv_back a1 hb1.1 b1)
      clear a1 b1
      go_enter Try.func5, Try.ntmps5
      go_wp2_with fail
      refine (awake_any w).mono ?_; rintro e w1 ⟨rfl, hw1⟩; obtain ⟨hc1, hf1⟩ := bcell hw1; have hz1 := hw1.size; (try simp only [World.size_alloc, World.size_setCell, World.size_drew, size_drewN, Nat.add_one_le_iff] at hz1); (try have hy1 : w.heap.size < w1.heap.size := by omega); (try have hx1 : w.heap.size + 1 < w1.heap.size := by omega); have HW1 := Lib.hid hw1; clear hw1
      go_wp2_with fail
      refine (add_any a b _).mono ?_; rintro e w2 ⟨rfl, hw2⟩; obtain ⟨hc2, hf2⟩ := bcell hw2; have hz2 := hw2.size; (try simp only [World.size_alloc, World.size_setCell, World.size_drew, size_drewN, Nat.add_one_le_iff] at hz2); (try have hy2 : w.heap.size < w2.heap.size := by omega); (try have hx2 : w.heap.size + 1 < w2.heap.size := by omega); have HW2 := Lib.hid hw2; clear hw2
      rcases E1.out with e1 | e1 <;> rw [e1] <;> clear e1
      all_goals
        go_wp2_with fail
        refine (mulDiv_any a b b _ F.out).mono ?_; rintro e w4 ⟨rfl, hw4⟩; obtain ⟨hc4, hf4⟩ := bcell hw4; have hz4 := hw4.size; (try simp only [World.size_alloc, World.size_setCell, World.size_drew, size_drewN, Nat.add_one_le_iff] at hz4); (try have hy4 : w.heap.size < w4.heap.size := by omega); (try have hx4 : w.heap.size + 1 < w4.heap.size := by omega); have HW4 := Lib.hid hw4; clear hw4
        rw [G.out]
        go_wp2_with fail
        go_ret
        exact ⟨by simp, (by repeat' (first | (with_reducible exact Below.refl _ _) | (with_reducible refine Below.alloc ?_ ?_ _) | (with_reducible refine below_drewN ?_ _) | (with_reducible refine Below.drew ?_) | (with_reducible refine Below.setCell ?_ ?_ _) | (with_reducible refine Below.trans ?_ (Below.mono HW0.out ?_)) | (with_reducible refine Below.trans ?_ (Below.mono HW1.out ?_)) | (with_reducible refine Below.trans ?_ (Below.mono HW2.out ?_)) | (with_reducible refine Below.trans ?_ (Below.mono HW3.out ?_)) | (with_reducible refine Below.trans ?_ (Below.mono HW4.out ?_)) | (with_reducible refine Below.trans ?_ (Below.mono HW5.out ?_)) | (with_reducible refine Below.trans ?_ (Below.mono HW6.out ?_)) | (with_reducible refine Below.trans ?_ (Below.mono HW7.out ?_)) | (with_reducible exact Nat.le_refl _) | omega | (simp only [World.size_alloc, World.size_setCell, World.size_drew, size_drewN]; omega) | (simp; done) | (simp; omega)))⟩
    · have hd : b < 1 ∨ 4611686018427387904 < b ∨ 4611686018427387904 < a ∨ a < -4611686018427387904 := by omega
      clear hin
      go_enter Try.func5, Try.ntmps5
      go_wp2_with fail
      refine (awake_any w).mono ?_; rintro e w1 ⟨rfl, hw1⟩; obtain ⟨hc1, hf1⟩ := bcell hw1; have hz1 := hw1.size; (try simp only [World.size_alloc, World.size_setCell, World.size_drew, size_drewN, Nat.add_one_le_iff] at hz1); (try have hy1 : w.heap.size < w1.heap.size := by omega); (try have hx1 : w.heap.size + 1 < w1.heap.size := by omega); have HW1 := Lib.hid hw1; clear hw1
      go_wp2_with fail
      refine (add_any a b _).mono ?_; rintro e w2 ⟨rfl, hw2⟩; obtain ⟨hc2, hf2⟩ := bcell hw2; have hz2 := hw2.size; (try simp only [World.size_alloc, World.size_setCell, World.size_drew, size_drewN, Nat.add_one_le_iff] at hz2); (try have hy2 : w.heap.size < w2.heap.size := by omega); (try have hx2 : w.heap.size + 1 < w2.heap.size := by omega); have HW2 := Lib.hid hw2; clear hw2
      rcases E1.out with e1 | e1 <;> rw [e1] <;> clear e1
      all_goals
        by_cases c1 : b < 1
        · go_wp2_with fail
          go_ret
          exact ⟨by simp, (by repeat' (first | (with_reducible exact Below.refl _ _) | (with_reducible refine Below.alloc ?_ ?_ _) | (with_reducible refine below_drewN ?_ _) | (with_reducible refine Below.drew ?_) | (with_reducible refine Below.setCell ?_ ?_ _) | (with_reducible refine Below.trans ?_ (Below.mono HW0.out ?_)) | (with_reducible refine Below.trans ?_ (Below.mono HW1.out ?_)) | (with_reducible refine Below.trans ?_ (Below.mono HW2.out ?_)) | (with_reducible refine Below.trans ?_ (Below.mono HW3.out ?_)) | (with_reducible refine Below.trans ?_ (Below.mono HW4.out ?_)) | (with_reducible refine Below.trans ?_ (Below.mono HW5.out ?_)) | (with_reducible refine Below.trans ?_ (Below.mono HW6.out ?_)) | (with_reducible refine Below.trans ?_ (Below.mono HW7.out ?_)) | (with_reducible exact Nat.le_refl _) | omega | (simp only [World.size_alloc, World.size_setCell, World.size_drew, size_drewN]; omega) | (simp; done) | (simp; omega)))⟩
        · by_cases c2 : 4611686018427387904 < b
          · go_wp2_with fail
            go_ret
            exact ⟨by simp, (by repeat' (first | (with_reducible exact Below.refl _ _) | (with_reducible refine Below.alloc ?_ ?_ _) | (with_reducible refine below_drewN ?_ _) | (with_reducible refine Below.drew ?_) | (with_reducible refine Below.setCell ?_ ?_ _) | (with_reducible refine Below.trans ?_ (Below.mono HW0.out ?_)) | (with_reducible refine Below.trans ?_ (Below.mono HW1.out ?_)) | (with_reducible refine Below.trans ?_ (Below.mono HW2.out ?_)) | (with_reducible refine Below.trans ?_ (Below.mono HW3.out ?_)) | (with_reducible refine Below.trans ?_ (Below.mono HW4.out ?_)) | (with_reducible refine Below.trans ?_ (Below.mono HW5.out ?_)) | (with_reducible refine Below.trans ?_ (Below.mono HW6.out ?_)) | (with_reducible refine Below.trans ?_ (Below.mono HW7.out ?_)) | (with_reducible exact Nat.le_refl _) | omega | (simp only [World.size_alloc, World.size_setCell, World.size_drew, size_drewN]; omega) | (simp; done) | (simp; omega)))⟩
          · by_cases c3 : 4611686018427387904 < a
            · go_wp2_with fail
              go_ret
              exact ⟨by simp, (by repeat' (first | (with_reducible exact Below.refl _ _) | (with_reducible refine Below.alloc ?_ ?_ _) | (with_reducible refine below_drewN ?_ _) | (with_reducible refine Below.drew ?_) | (with_reducible refine Below.setCell ?_ ?_ _) | (with_reducible refine Below.trans ?_ (Below.mono HW0.out ?_)) | (with_reducible refine Below.trans ?_ (Below.mono HW1.out ?_)) | (with_reducible refine Below.trans ?_ (Below.mono HW2.out ?_)) | (with_reducible refine Below.trans ?_ (Below.mono HW3.out ?_)) | (with_reducible refine Below.trans ?_ (Below.mono HW4.out ?_)) | (with_reducible refine Below.trans ?_ (Below.mono HW5.out ?_)) | (with_reducible refine Below.trans ?_ (Below.mono HW6.out ?_)) | (with_reducible refine Below.trans ?_ (Below.mono HW7.out ?_)) | (with_reducible exact Nat.le_refl _) | omega | (simp only [World.size_alloc, World.size_setCell, World.size_drew, size_drewN]; omega) | (simp; done) | (simp; omega)))⟩
            · have c4 : a < -4611686018427387904 := by omega
              clear hd
              go_wp2_with fail
              go_ret
              exact ⟨by simp, (by repeat' (first | (with_reducible exact Below.refl _ _) | (with_reducible refine Below.alloc ?_ ?_ _) | (with_reducible refine below_drewN ?_ _) | (with_reducible refine Below.drew ?_) | (with_reducible refine Below.setCell ?_ ?_ _) | (with_reducible refine Below.trans ?_ (Below.mono HW0.out ?_)) | (with_reducible refine Below.trans ?_ (Below.mono HW1.out ?_)) | (with_reducible refine Below.trans ?_ (Below.mono HW2.out ?_)) | (with_reducible refine Below.trans ?_ (Below.mono HW3.out ?_)) | (with_reducible refine Below.trans ?_ (Below.mono HW4.out ?_)) | (with_reducible refine Below.trans ?_ (Below.mono HW5.out ?_)) | (with_reducible refine Below.trans ?_ (Below.mono HW6.out ?_)) | (with_reducible refine Below.trans ?_ (Below.mono HW7.out ?_)) | (with_reducible exact Nat.le_refl _) | omega | (simp only [World.size_alloc, World.size_setCell, World.size_drew, size_drewN]; omega) | (simp; done) | (simp; omega)))⟩
end Go.Proofs.Ytddbmaoighimmaa
