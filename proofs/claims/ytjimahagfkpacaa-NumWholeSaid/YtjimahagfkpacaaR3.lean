/- the reference's Told, Is, both, Add, Sub. -/
import Derived.Test.YtjimahagfkpacaaR2
import Derived.Test.YtjimahagfkpacaaA
namespace Go.Proofs.Ytjimahagfkpacaa
open Go.RowKit Go
set_option linter.unusedVariables false
set_option linter.unusedSimpArgs false

theorem of_most (w : World) : Calls Try.prog 21 #[.int .i64 4611686018427387904] w fun e w' => e = .returned (wd false 4611686018427387904) ∧ Below w.heap.size w w' := of_any 4611686018427387904 w (by omega)

theorem two_low {m : Int} (h0 : 0 ≤ m) (h1 : m ≤ 18446744073709551615) : dg 0 m + dg 1 m * 4294967296 = m := by
  obtain ⟨e0, e1, _, _⟩ := dg_small h0 h1
  rw [e0, e1]; omega
theorem amt_wz_yes {n : Bool} {m : Int} (h0 : 0 ≤ m) (h : m ≤ 4611686018427387904) : amt (wz n m) = true := by
  cases n <;> simp [amt, wz] <;> omega
theorem amt_wz_no {n : Bool} {m : Int} (h0 : 0 ≤ m) (h : 4611686018427387904 < m) : ¬ amt (wz n m) = true := by
  cases n <;> simp [amt, wz] <;> omega

set_option maxHeartbeats 400000 in
theorem wtold_any (n : Bool) (m : Int) (w : World) (h0 : 0 ≤ m) (h1 : m < big) :
    Calls Try.prog 24 #[wd n m] w fun e w' => e = .returned (pr (told (wz n m))) ∧ Below w.heap.size w w' := by
  have hb1 : 4611686018427387904 < big := by unfold big; omega
  by_cases hm : 4611686018427387904 < m
  · go_enter Try.func24, Try.ntmps24
    go_wp2_with (first
      | (go_at_call 21; refine (of_most _).mono ?_; rintro e w1 ⟨rfl, hw1⟩; obtain ⟨hc1, hf1⟩ := bcell hw1; have hz1 := hw1.size; (try simp only [World.size_alloc, World.size_setCell, World.size_drew, size_drewN, Nat.add_one_le_iff] at hz1); (try have hy1 : w.heap.size < w1.heap.size := by omega); (try have hx1 : w.heap.size + 1 < w1.heap.size := by omega); have HW1 := Lib.hid hw1; clear hw1)
      | (go_at_call 38; refine (lessm 4611686018427387904 m _ (by omega) h0 hb1 h1).mono ?_; rintro e w2 ⟨rfl, hw2⟩; obtain ⟨hc2, hf2⟩ := bcell hw2; have hz2 := hw2.size; (try simp only [World.size_alloc, World.size_setCell, World.size_drew, size_drewN, Nat.add_one_le_iff] at hz2); (try have hy2 : w.heap.size < w2.heap.size := by omega); (try have hx2 : w.heap.size + 1 < w2.heap.size := by omega); have HW2 := Lib.hid hw2; clear hw2))
    go_ret2
    exact ⟨ret_pr (told_no (amt_wz_no h0 hm)), (by repeat' (first | (with_reducible exact Below.refl _ _) | (with_reducible refine Below.alloc ?_ ?_ _) | (with_reducible refine below_drewN ?_ _) | (with_reducible refine Below.drew ?_) | (with_reducible refine Below.setCell ?_ ?_ _) | (with_reducible refine Below.trans ?_ (Below.mono HW0.out ?_)) | (with_reducible refine Below.trans ?_ (Below.mono HW1.out ?_)) | (with_reducible refine Below.trans ?_ (Below.mono HW2.out ?_)) | (with_reducible refine Below.trans ?_ (Below.mono HW3.out ?_)) | (with_reducible refine Below.trans ?_ (Below.mono HW4.out ?_)) | (with_reducible refine Below.trans ?_ (Below.mono HW5.out ?_)) | (with_reducible refine Below.trans ?_ (Below.mono HW6.out ?_)) | (with_reducible refine Below.trans ?_ (Below.mono HW7.out ?_)) | (with_reducible exact Nat.le_refl _) | omega | (simp only [World.size_alloc, World.size_setCell, World.size_drew, size_drewN]; omega) | (simp; done) | (simp; omega)))⟩
  · have hl := two_low h0 (show m ≤ 18446744073709551615 by omega)
    have hd0 := dg_bd 0 m; have hd1 := dg_bd 1 m
    have hb2 : dg 0 m + dg 1 m * 4294967296 ≤ 4611686018427387904 := by omega
    have HL := Lib.hid hl; clear hl
    cases n
    all_goals
      go_enter Try.func24, Try.ntmps24
      go_wp2_with (first
        | (go_at_call 21; refine (of_most _).mono ?_; rintro e w1 ⟨rfl, hw1⟩; obtain ⟨hc1, hf1⟩ := bcell hw1; have hz1 := hw1.size; (try simp only [World.size_alloc, World.size_setCell, World.size_drew, size_drewN, Nat.add_one_le_iff] at hz1); (try have hy1 : w.heap.size < w1.heap.size := by omega); (try have hx1 : w.heap.size + 1 < w1.heap.size := by omega); have HW1 := Lib.hid hw1; clear hw1)
        | (go_at_call 38; refine (lessm 4611686018427387904 m _ (by omega) h0 hb1 h1).mono ?_; rintro e w2 ⟨rfl, hw2⟩; obtain ⟨hc2, hf2⟩ := bcell hw2; have hz2 := hw2.size; (try simp only [World.size_alloc, World.size_setCell, World.size_drew, size_drewN, Nat.add_one_le_iff] at hz2); (try have hy2 : w.heap.size < w2.heap.size := by omega); (try have hx2 : w.heap.size + 1 < w2.heap.size := by omega); have HW2 := Lib.hid hw2; clear hw2))
      go_ret2
    · exact ⟨ret_pr (by rw [HL.out]; exact told_yes (amt_wz_yes h0 (by omega))), (by repeat' (first | (with_reducible exact Below.refl _ _) | (with_reducible refine Below.alloc ?_ ?_ _) | (with_reducible refine below_drewN ?_ _) | (with_reducible refine Below.drew ?_) | (with_reducible refine Below.setCell ?_ ?_ _) | (with_reducible refine Below.trans ?_ (Below.mono HW0.out ?_)) | (with_reducible refine Below.trans ?_ (Below.mono HW1.out ?_)) | (with_reducible refine Below.trans ?_ (Below.mono HW2.out ?_)) | (with_reducible refine Below.trans ?_ (Below.mono HW3.out ?_)) | (with_reducible refine Below.trans ?_ (Below.mono HW4.out ?_)) | (with_reducible refine Below.trans ?_ (Below.mono HW5.out ?_)) | (with_reducible refine Below.trans ?_ (Below.mono HW6.out ?_)) | (with_reducible refine Below.trans ?_ (Below.mono HW7.out ?_)) | (with_reducible exact Nat.le_refl _) | omega | (simp only [World.size_alloc, World.size_setCell, World.size_drew, size_drewN]; omega) | (simp; done) | (simp; omega)))⟩
    · exact ⟨ret_pr (by rw [HL.out]; exact told_yes (amt_wz_yes h0 (by omega))), (by repeat' (first | (with_reducible exact Below.refl _ _) | (with_reducible refine Below.alloc ?_ ?_ _) | (with_reducible refine below_drewN ?_ _) | (with_reducible refine Below.drew ?_) | (with_reducible refine Below.setCell ?_ ?_ _) | (with_reducible refine Below.trans ?_ (Below.mono HW0.out ?_)) | (with_reducible refine Below.trans ?_ (Below.mono HW1.out ?_)) | (with_reducible refine Below.trans ?_ (Below.mono HW2.out ?_)) | (with_reducible refine Below.trans ?_ (Below.mono HW3.out ?_)) | (with_reducible refine Below.trans ?_ (Below.mono HW4.out ?_)) | (with_reducible refine Below.trans ?_ (Below.mono HW5.out ?_)) | (with_reducible refine Below.trans ?_ (Below.mono HW6.out ?_)) | (with_reducible refine Below.trans ?_ (Below.mono HW7.out ?_)) | (with_reducible exact Nat.le_refl _) | omega | (simp only [World.size_alloc, World.size_setCell, World.size_drew, size_drewN]; omega) | (simp; done) | (simp; omega)))⟩

theorem is_ref (a : Int) (w : World) : Calls Try.prog 31 #[.int .i64 a] w fun e w' => e = .returned (.bool (amt a)) ∧ w = w' := by
  by_cases h : amt a = true
  · have h1 := amt_yes h
    have H := Lib.hid h; clear h
    go_enter Try.func31, Try.ntmps31
    go_wp2
    go_ret
    exact ⟨ret_bool H.out.symm, rfl⟩
  · have h1 := amt_no h
    have H := Lib.hid h; clear h
    rcases h1 with h1 | h1
    all_goals
      go_enter Try.func31, Try.ntmps31
      go_wp2
      all_goals go_ret
      all_goals have e := Bool.eq_false_iff.2 H.out
      all_goals exact ⟨ret_bool (by first | (rw [e]; done) | (rw [e]; simp; omega)), rfl⟩

theorem both_any (a b : Int) (w : World) : Calls Try.prog 27 #[.int .i64 a, .int .i64 b] w fun e w' => e = .returned (.bool (amt a && amt b)) ∧ w = w' := by
  by_cases h : amt a = true
  · have H := Lib.hid h
    go_enter Try.func27, Try.ntmps27
    go_wp2_with fail
    refine (is_ref a _).mono ?_; rintro e w' ⟨rfl, rfl⟩
    rw [h]; clear h
    go_wp2_with fail
    refine (is_ref b _).mono ?_; rintro e w' ⟨rfl, rfl⟩
    go_wp2_with fail
    go_ret
    exact ⟨ret_bool (by rw [H.out]; simp), rfl⟩
  · have H := Lib.hid h
    go_enter Try.func27, Try.ntmps27
    go_wp2_with fail
    refine (is_ref a _).mono ?_; rintro e w' ⟨rfl, rfl⟩
    rw [Bool.eq_false_iff.2 h]; clear h
    go_wp2_with fail
    go_ret
    exact ⟨ret_bool (by rw [Bool.eq_false_iff.2 H.out]; rfl), rfl⟩

theorem Wide.pre {w0 w' : World} {z L : Int} {e : Ending} (h : Wide z L w0 e w') : ∃ n m, e = .returned (wd n m) ∧ 0 ≤ m ∧ m ≤ L ∧ Hid (wz n m = z) ∧ Below w0.heap.size w0 w' := by
  obtain ⟨⟨n, m, h1, h2, h3, h4⟩, h5⟩ := h
  exact ⟨n, m, h1, h2, h3, h4, h5⟩
theorem amt_abs {a : Int} (h : amt a = true) : (a.natAbs : Int) ≤ 4611686018427387904 := by have := amt_yes h; omega
theorem wz_of (a : Int) : wz (decide (a < 0)) a.natAbs = a := by
  by_cases h : a < 0 <;> simp [wz, h] <;> omega

theorem wz_neg (a : Int) : wz (decide (0 < a)) a.natAbs = -a := by
  by_cases h : 0 < a <;> simp [wz, h] <;> omega

set_option maxHeartbeats 400000 in
theorem radd_any (a b : Int) (w : World) : Calls Try.prog 13 #[.int .i64 a, .int .i64 b] w fun e w' => e = .returned (pr (addS a b)) ∧ Below w.heap.size w w' := by
  by_cases h : (amt a && amt b) = true
  · have ha := amt_abs (a := a) (by simp at h; exact h.1)
    have hb := amt_abs (a := b) (by simp at h; exact h.2)
    have H := Lib.hid h
    go_enter Try.func13, Try.ntmps13
    go_wp2_with fail
    refine (both_any a b _).mono ?_; rintro e w' ⟨rfl, rfl⟩
    rw [h]; clear h
    go_wp2_with fail
    refine (of_any a _ (by omega)).mono ?_; rintro e w1 ⟨rfl, hw1⟩; obtain ⟨hc1, hf1⟩ := bcell hw1; have hz1 := hw1.size; (try simp only [World.size_alloc, World.size_setCell, World.size_drew, size_drewN, Nat.add_one_le_iff] at hz1); (try have hy1 : w.heap.size < w1.heap.size := by omega); (try have hx1 : w.heap.size + 1 < w1.heap.size := by omega); have HW1 := Lib.hid hw1; clear hw1
    go_wp2_with fail
    refine (of_any b _ (by omega)).mono ?_; rintro e w2 ⟨rfl, hw2⟩; obtain ⟨hc2, hf2⟩ := bcell hw2; have hz2 := hw2.size; (try simp only [World.size_alloc, World.size_setCell, World.size_drew, size_drewN, Nat.add_one_le_iff] at hz2); (try have hy2 : w.heap.size < w2.heap.size := by omega); (try have hx2 : w.heap.size + 1 < w2.heap.size := by omega); have HW2 := Lib.hid hw2; clear hw2
    go_wp2_with fail
    refine (wadd_any _ _ _ _ _ (by omega) (by omega) (by unfold big; omega)).mono ?_
    intro e w3 h3; obtain ⟨n, m, rfl, hm0, hm1, hz, hw3⟩ := Wide.pre h3; clear h3; obtain ⟨hc3, hf3⟩ := bcell hw3; have hz3 := hw3.size; (try simp only [World.size_alloc, World.size_setCell, World.size_drew, size_drewN, Nat.add_one_le_iff] at hz3); (try have hy3 : w.heap.size < w3.heap.size := by omega); (try have hx3 : w.heap.size + 1 < w3.heap.size := by omega); have HW3 := Lib.hid hw3; clear hw3
    go_wp2_with fail
    refine (wtold_any n m _ hm0 (by unfold big; omega)).mono ?_; rintro e w4 ⟨rfl, hw4⟩; obtain ⟨hc4, hf4⟩ := bcell hw4; have hz4 := hw4.size; (try simp only [World.size_alloc, World.size_setCell, World.size_drew, size_drewN, Nat.add_one_le_iff] at hz4); (try have hy4 : w.heap.size < w4.heap.size := by omega); (try have hx4 : w.heap.size + 1 < w4.heap.size := by omega); have HW4 := Lib.hid hw4; clear hw4
    go_wp2_with fail
    go_ret2
    refine ⟨ret_pr ?_, (by repeat' (first | (with_reducible exact Below.refl _ _) | (with_reducible refine Below.alloc ?_ ?_ _) | (with_reducible refine below_drewN ?_ _) | (with_reducible refine Below.drew ?_) | (with_reducible refine Below.setCell ?_ ?_ _) | (with_reducible refine Below.trans ?_ (Below.mono HW0.out ?_)) | (with_reducible refine Below.trans ?_ (Below.mono HW1.out ?_)) | (with_reducible refine Below.trans ?_ (Below.mono HW2.out ?_)) | (with_reducible refine Below.trans ?_ (Below.mono HW3.out ?_)) | (with_reducible refine Below.trans ?_ (Below.mono HW4.out ?_)) | (with_reducible refine Below.trans ?_ (Below.mono HW5.out ?_)) | (with_reducible refine Below.trans ?_ (Below.mono HW6.out ?_)) | (with_reducible refine Below.trans ?_ (Below.mono HW7.out ?_)) | (with_reducible exact Nat.le_refl _) | omega | (simp only [World.size_alloc, World.size_setCell, World.size_drew, size_drewN]; omega) | (simp; done) | (simp; omega)))⟩
    rw [hz.out, wz_of, wz_of, addS, if_pos H.out]
  · have H := Lib.hid h
    go_enter Try.func13, Try.ntmps13
    go_wp2_with fail
    refine (both_any a b _).mono ?_; rintro e w' ⟨rfl, rfl⟩
    rw [Bool.eq_false_iff.2 h]; clear h
    go_wp2_with fail
    go_ret2
    exact ⟨ret_pr (add_no H.out), (by repeat' (first | (with_reducible exact Below.refl _ _) | (with_reducible refine Below.alloc ?_ ?_ _) | (with_reducible refine below_drewN ?_ _) | (with_reducible refine Below.drew ?_) | (with_reducible refine Below.setCell ?_ ?_ _) | (with_reducible refine Below.trans ?_ (Below.mono HW0.out ?_)) | (with_reducible refine Below.trans ?_ (Below.mono HW1.out ?_)) | (with_reducible refine Below.trans ?_ (Below.mono HW2.out ?_)) | (with_reducible refine Below.trans ?_ (Below.mono HW3.out ?_)) | (with_reducible refine Below.trans ?_ (Below.mono HW4.out ?_)) | (with_reducible refine Below.trans ?_ (Below.mono HW5.out ?_)) | (with_reducible refine Below.trans ?_ (Below.mono HW6.out ?_)) | (with_reducible refine Below.trans ?_ (Below.mono HW7.out ?_)) | (with_reducible exact Nat.le_refl _) | omega | (simp only [World.size_alloc, World.size_setCell, World.size_drew, size_drewN]; omega) | (simp; done) | (simp; omega)))⟩
set_option maxHeartbeats 400000 in
theorem rsub_any (a b : Int) (w : World) : Calls Try.prog 14 #[.int .i64 a, .int .i64 b] w fun e w' => e = .returned (pr (subS a b)) ∧ Below w.heap.size w w' := by
  by_cases h : (amt a && amt b) = true
  · have ha := amt_abs (a := a) (by simp at h; exact h.1)
    have hb := amt_abs (a := b) (by simp at h; exact h.2)
    have H := Lib.hid h
    go_enter Try.func14, Try.ntmps14
    go_wp2_with fail
    refine (both_any a b _).mono ?_; rintro e w' ⟨rfl, rfl⟩
    rw [h]; clear h
    go_wp2_with fail
    refine (of_any a _ (by omega)).mono ?_; rintro e w1 ⟨rfl, hw1⟩; obtain ⟨hc1, hf1⟩ := bcell hw1; have hz1 := hw1.size; (try simp only [World.size_alloc, World.size_setCell, World.size_drew, size_drewN, Nat.add_one_le_iff] at hz1); (try have hy1 : w.heap.size < w1.heap.size := by omega); (try have hx1 : w.heap.size + 1 < w1.heap.size := by omega); have HW1 := Lib.hid hw1; clear hw1
    go_wp2_with fail
    refine (of_any (-b) _ (by omega)).mono ?_; rintro e w2 ⟨rfl, hw2⟩; obtain ⟨hc2, hf2⟩ := bcell hw2; have hz2 := hw2.size; (try simp only [World.size_alloc, World.size_setCell, World.size_drew, size_drewN, Nat.add_one_le_iff] at hz2); (try have hy2 : w.heap.size < w2.heap.size := by omega); (try have hx2 : w.heap.size + 1 < w2.heap.size := by omega); have HW2 := Lib.hid hw2; clear hw2
    go_wp2_with fail
    refine (wadd_any _ _ _ _ _ (by omega) (by omega) (by unfold big; omega)).mono ?_
    intro e w3 h3; obtain ⟨n, m, rfl, hm0, hm1, hz, hw3⟩ := Wide.pre h3; clear h3; obtain ⟨hc3, hf3⟩ := bcell hw3; have hz3 := hw3.size; (try simp only [World.size_alloc, World.size_setCell, World.size_drew, size_drewN, Nat.add_one_le_iff] at hz3); (try have hy3 : w.heap.size < w3.heap.size := by omega); (try have hx3 : w.heap.size + 1 < w3.heap.size := by omega); have HW3 := Lib.hid hw3; clear hw3
    go_wp2_with fail
    refine (wtold_any n m _ hm0 (by unfold big; omega)).mono ?_; rintro e w4 ⟨rfl, hw4⟩; obtain ⟨hc4, hf4⟩ := bcell hw4; have hz4 := hw4.size; (try simp only [World.size_alloc, World.size_setCell, World.size_drew, size_drewN, Nat.add_one_le_iff] at hz4); (try have hy4 : w.heap.size < w4.heap.size := by omega); (try have hx4 : w.heap.size + 1 < w4.heap.size := by omega); have HW4 := Lib.hid hw4; clear hw4
    go_wp2_with fail
    go_ret2
    refine ⟨ret_pr ?_, (by repeat' (first | (with_reducible exact Below.refl _ _) | (with_reducible refine Below.alloc ?_ ?_ _) | (with_reducible refine below_drewN ?_ _) | (with_reducible refine Below.drew ?_) | (with_reducible refine Below.setCell ?_ ?_ _) | (with_reducible refine Below.trans ?_ (Below.mono HW0.out ?_)) | (with_reducible refine Below.trans ?_ (Below.mono HW1.out ?_)) | (with_reducible refine Below.trans ?_ (Below.mono HW2.out ?_)) | (with_reducible refine Below.trans ?_ (Below.mono HW3.out ?_)) | (with_reducible refine Below.trans ?_ (Below.mono HW4.out ?_)) | (with_reducible refine Below.trans ?_ (Below.mono HW5.out ?_)) | (with_reducible refine Below.trans ?_ (Below.mono HW6.out ?_)) | (with_reducible refine Below.trans ?_ (Below.mono HW7.out ?_)) | (with_reducible exact Nat.le_refl _) | omega | (simp only [World.size_alloc, World.size_setCell, World.size_drew, size_drewN]; omega) | (simp; done) | (simp; omega)))⟩
    rw [hz.out, wz_of, wz_neg, subS, if_pos H.out]; rfl
  · have H := Lib.hid h
    go_enter Try.func14, Try.ntmps14
    go_wp2_with fail
    refine (both_any a b _).mono ?_; rintro e w' ⟨rfl, rfl⟩
    rw [Bool.eq_false_iff.2 h]; clear h
    go_wp2_with fail
    go_ret2
    exact ⟨ret_pr (sub_no H.out), (by repeat' (first | (with_reducible exact Below.refl _ _) | (with_reducible refine Below.alloc ?_ ?_ _) | (with_reducible refine below_drewN ?_ _) | (with_reducible refine Below.drew ?_) | (with_reducible refine Below.setCell ?_ ?_ _) | (with_reducible refine Below.trans ?_ (Below.mono HW0.out ?_)) | (with_reducible refine Below.trans ?_ (Below.mono HW1.out ?_)) | (with_reducible refine Below.trans ?_ (Below.mono HW2.out ?_)) | (with_reducible refine Below.trans ?_ (Below.mono HW3.out ?_)) | (with_reducible refine Below.trans ?_ (Below.mono HW4.out ?_)) | (with_reducible refine Below.trans ?_ (Below.mono HW5.out ?_)) | (with_reducible refine Below.trans ?_ (Below.mono HW6.out ?_)) | (with_reducible refine Below.trans ?_ (Below.mono HW7.out ?_)) | (with_reducible exact Nat.le_refl _) | omega | (simp only [World.size_alloc, World.size_setCell, World.size_drew, size_drewN]; omega) | (simp; done) | (simp; omega)))⟩

theorem blk5 {w1 : World} {v0 v1 v2 v3 v4 : Value} {t g : Nat} (h : w1.heap[g]? = some (.cells #[v0, v1, v2, v3, v4] t (0, 0))) :
    w1.cell? ⟨g, 0, none⟩ = some v0 ∧ w1.cell? ⟨g, 1, none⟩ = some v1 ∧ w1.cell? ⟨g, 2, none⟩ = some v2 ∧ w1.cell? ⟨g, 3, none⟩ = some v3 ∧ w1.cell? ⟨g, 4, none⟩ = some v4 ∧ ∀ i, w1.frozen? ⟨g, i, none⟩ = false := by
  simp [World.cell?, World.frozen?, h]
theorem set5_blk {w1 : World} {v0 v1 v2 v3 v4 : Value} {t g : Nat} (h : w1.heap[g]? = some (.cells #[v0, v1, v2, v3, v4] t (0, 0))) (u0 u1 u2 u3 u4 : Value) :
    (((((w1.setCell ⟨g, 0, none⟩ u0).setCell ⟨g, 1, none⟩ u1).setCell ⟨g, 2, none⟩ u2).setCell ⟨g, 3, none⟩ u3).setCell ⟨g, 4, none⟩ u4).heap[g]? = some (.cells #[u0, u1, u2, u3, u4] t (0, 0)) := by
  simp [World.setCell, Array.getElem?_modify, h]
theorem sum_snoc (zs : List Int) (k : Nat) (h : k < zs.length) : (zs.take (k + 1)).sum = (zs.take k).sum + zs[k] := by
  rw [List.take_succ_eq_append_getElem h, List.sum_append, List.sum_cons, List.sum_nil, Int.add_zero]

/-- Behind k rounds of Sum. -/
def SumAt (zs : List Int) (w : World) (t : Nat) (i : Value) (wr : World) : Prop := ∃ (k : Nat) (n : Bool) (m : Int), k ≤ zs.length ∧ i = .int .i64 k ∧
  Hid (wr.heap[w.heap.size]? = some (.cells #[.bool n, .int .u64 (dg 0 m), .int .u64 (dg 1 m), .int .u64 (dg 2 m), .int .u64 (dg 3 m)] t (0, 0))) ∧ 0 ≤ m ∧ m ≤ k * 4611686018427387904 ∧
  Hid (wz n m = (zs.take k).sum) ∧ Hid ((zs.take k).all amt = true) ∧ Below w.heap.size w wr ∧ w.heap.size < wr.heap.size

set_option maxHeartbeats 800000 in
theorem rsum_any (A : Option Addr) (zs : List Int) (c : Nat) (w : World) (hr : Rd w w.heap.size 1 A zs.length (ints zs)) (hm : zs.length ≤ 100000) :
    Calls Try.prog 17 #[.slice A zs.length c] w fun e w' => e = .returned (pr (sumS zs)) ∧ Below w.heap.size w w' := by
  go_enter Try.func17, Try.ntmps17
  go_wp2
  go_loopw [5] (fun i wr => SumAt zs w 37 i wr) (fun i _ => zs.length - (intOf i).toNat)
  case atStart => exact ⟨0, false, 0, Nat.zero_le _, rfl, heap_alloc_new w _, by omega, by omega, rfl, rfl, below_new _ _, by simp⟩
  case round =>
    obtain ⟨k, n, m, hk, rfl, hblk, hm0, hm1, hz, ha, hw0, hz0⟩ := hrel
    have HW0 := Lib.hid hw0
    by_cases hlt : k < zs.length
    · obtain ⟨b, off, rfl, hb, hc⟩ := hr.2 (by omega)
      have hcell := (hw0.cell (p := ⟨b, off + k, none⟩) hb).trans ((hc k (by omega)).trans (ints_at zs k hlt))
      clear hc hw0
      obtain ⟨c0, c1, c2, c3, c4, c5⟩ := blk5 hblk.out
      by_cases h : amt zs[k] = true
      · have H := Lib.hid h
        have habs := amt_abs h
        go_wp2_with fail
        refine (is_ref zs[k] _).mono ?_; rintro e w' ⟨rfl, rfl⟩
        rw [h]; clear h
        go_wp2_with fail
        go_region_with (first
          | (go_at_call 21; refine (of_any zs[k] _ (by omega)).mono ?_; rintro e w1 ⟨rfl, hw1⟩; obtain ⟨k0, k1, k2, k3, k4, k5⟩ := blk5 ((hw1.block w.heap.size hz0).trans hblk.out); obtain ⟨hc1, hf1⟩ := bcell hw1; have hz1 := hw1.size; (try simp only [World.size_alloc, World.size_setCell, World.size_drew, size_drewN, Nat.add_one_le_iff] at hz1); (try have hy1 : w.heap.size < w1.heap.size := by omega); (try have hx1 : w.heap.size + 1 < w1.heap.size := by omega); have HW1 := Lib.hid hw1; clear hw1; clear hc1 hf1)
          | (go_at_call 28; refine (wadd_any _ _ _ _ _ (by omega) (by omega) (by unfold big; omega)).mono ?_; intro e w2 h2; obtain ⟨n2, m2, rfl, hm20, hm21, hwz2, hw2⟩ := Wide.pre h2; clear h2; have e2 := (hw2.block w.heap.size hy1).trans ((HW1.out.block w.heap.size hz0).trans hblk.out); obtain ⟨d0, d1, d2, d3, d4, d5⟩ := blk5 e2; have E2 := Lib.hid e2; clear e2; obtain ⟨hc2, hf2⟩ := bcell hw2; have hz2 := hw2.size; (try simp only [World.size_alloc, World.size_setCell, World.size_drew, size_drewN, Nat.add_one_le_iff] at hz2); (try have hy2 : w.heap.size < w2.heap.size := by omega); (try have hx2 : w.heap.size + 1 < w2.heap.size := by omega); have HW2 := Lib.hid hw2; clear hw2; clear hc2 hf2))
        all_goals go_wp2
        all_goals
          refine ⟨⟨k + 1, n2, m2, by omega, by go_num, set5_blk E2.out _ _ _ _ _, hm20, by omega, ?_, ?_, (by repeat' (first | (with_reducible exact Below.refl _ _) | (with_reducible refine Below.alloc ?_ ?_ _) | (with_reducible refine below_drewN ?_ _) | (with_reducible refine Below.drew ?_) | (with_reducible refine Below.setCell ?_ ?_ _) | (with_reducible refine Below.trans ?_ (Below.mono HW0.out ?_)) | (with_reducible refine Below.trans ?_ (Below.mono HW1.out ?_)) | (with_reducible refine Below.trans ?_ (Below.mono HW2.out ?_)) | (with_reducible refine Below.trans ?_ (Below.mono HW3.out ?_)) | (with_reducible refine Below.trans ?_ (Below.mono HW4.out ?_)) | (with_reducible refine Below.trans ?_ (Below.mono HW5.out ?_)) | (with_reducible refine Below.trans ?_ (Below.mono HW6.out ?_)) | (with_reducible refine Below.trans ?_ (Below.mono HW7.out ?_)) | (with_reducible exact Nat.le_refl _) | omega | (simp only [World.size_alloc, World.size_setCell, World.size_drew, size_drewN]; omega) | (simp; done) | (simp; omega))), by simp only [World.size_setCell]; omega⟩, by simp [intOf]; omega⟩
          · show _ = _; rw [hwz2.out, hz.out, wz_of, sum_snoc _ _ hlt]
          · show _ = _; rw [all_snoc _ _ _ hlt, ha.out, H.out]; rfl
      · have H := Lib.hid (all_no amt zs k hlt h)
        go_wp2_with fail
        refine (is_ref zs[k] _).mono ?_; rintro e w' ⟨rfl, rfl⟩
        rw [Bool.eq_false_iff.2 h]; clear h
        go_wp2_with fail
        go_ret2
        exact ⟨ret_pr (by rw [sumS, H.out]; rfl), HW0.out⟩
    · clear hw0
      obtain ⟨c0, c1, c2, c3, c4, c5⟩ := blk5 hblk.out
      go_wp2_with fail
      refine (wtold_any n m _ hm0 (by unfold big; omega)).mono ?_; rintro e w1 ⟨rfl, hw1⟩; obtain ⟨hc1, hf1⟩ := bcell hw1; have hz1 := hw1.size; (try simp only [World.size_alloc, World.size_setCell, World.size_drew, size_drewN, Nat.add_one_le_iff] at hz1); (try have hy1 : w.heap.size < w1.heap.size := by omega); (try have hx1 : w.heap.size + 1 < w1.heap.size := by omega); have HW1 := Lib.hid hw1; clear hw1
      go_wp2_with fail
      go_ret2
      have hl : zs.take k = zs := List.take_of_length_le (by omega)
      exact ⟨ret_pr (by have h1 := ha.out; have h2 := hz.out; rw [hl] at h1 h2; rw [sumS, h1, h2]; rfl), (by repeat' (first | (with_reducible exact Below.refl _ _) | (with_reducible refine Below.alloc ?_ ?_ _) | (with_reducible refine below_drewN ?_ _) | (with_reducible refine Below.drew ?_) | (with_reducible refine Below.setCell ?_ ?_ _) | (with_reducible refine Below.trans ?_ (Below.mono HW0.out ?_)) | (with_reducible refine Below.trans ?_ (Below.mono HW1.out ?_)) | (with_reducible refine Below.trans ?_ (Below.mono HW2.out ?_)) | (with_reducible refine Below.trans ?_ (Below.mono HW3.out ?_)) | (with_reducible refine Below.trans ?_ (Below.mono HW4.out ?_)) | (with_reducible refine Below.trans ?_ (Below.mono HW5.out ?_)) | (with_reducible refine Below.trans ?_ (Below.mono HW6.out ?_)) | (with_reducible refine Below.trans ?_ (Below.mono HW7.out ?_)) | (with_reducible exact Nat.le_refl _) | omega | (simp only [World.size_alloc, World.size_setCell, World.size_drew, size_drewN]; omega) | (simp; done) | (simp; omega)))⟩
end Go.Proofs.Ytjimahagfkpacaa
