/- The walk of AccrueRises. -/
import Derived.Test.YtpfcajekbkpabaaWS
namespace Go.Proofs.Ytpfcajekbkpabaa
open Go.RowKit Go
set_option linter.unusedVariables false
set_option linter.unusedSimpArgs false

theorem told_ok {z : Int} (h : (told z).2 = 0) : (told z).1 = z := by
  unfold told at *; split at h
  · rw [if_pos ‹_›]
  · simp at h
theorem simple_ok {p bp d : Int} (h : (simpleS p bp d).2 = 0) : (simpleS p bp d).1 = p * (bp * d) / 3650000 ∧ 0 ≤ p ∧ 0 ≤ bp ∧ 0 ≤ d := by
  unfold simpleS at *
  split at h
  · rename_i g
    rw [if_pos g]
    have g' : okP p = true ∧ okR bp = true ∧ okD d = true := by simp at g; exact ⟨g.1.1, g.1.2, g.2⟩
    exact ⟨told_ok h, (okP_yes g'.1).1, (okR_yes g'.2.1).1, (okD_yes g'.2.2).1⟩
  · simp at h
theorem simple_rises {p bp d p' bp' d' : Int} (hp : p ≤ p') (hb : bp ≤ bp') (hd : d ≤ d') (h : (simpleS p bp d).2 = 0) (h' : (simpleS p' bp' d').2 = 0) : (simpleS p bp d).1 ≤ (simpleS p' bp' d').1 := by
  obtain ⟨e, a0, a1, a2⟩ := simple_ok h
  obtain ⟨e', c0, c1, c2⟩ := simple_ok h'
  rw [e, e']
  refine Int.ediv_le_ediv (by omega) ?_
  have m1 : bp * d ≤ bp' * d' := Int.le_trans (Int.mul_le_mul_of_nonneg_left hd a1) (Int.mul_le_mul_of_nonneg_right hb c2)
  exact Int.le_trans (Int.mul_le_mul_of_nonneg_left m1 a0) (Int.mul_le_mul_of_nonneg_right hp (Int.mul_nonneg c1 c2))

set_option maxHeartbeats 400000 in
theorem accrueRises_walk (d1 y1 p1 b1 d2 y2 p2 b2 : Int) (w : World) :
    Calls Try.prog 4 #[.agg #[.int .i64 d1, .int .i64 y1, .int .i64 p1, .int .i64 b1], .agg #[.int .i64 d2, .int .i64 y2, .int .i64 p2, .int .i64 b2]] w fun e w' => e = .returned (.bool true) ∧ Below w.heap.size w w' := by
  obtain ⟨xa, ea, hA⟩ : ∃ x e, simpleS (min p1 p2) (min b1 b2) (min y1 y2) = (x, e) := ⟨_, _, rfl⟩
  obtain ⟨xb, eb, hB⟩ : ∃ x e, simpleS (max p1 p2) (max b1 b2) (max y1 y2) = (x, e) := ⟨_, _, rfl⟩
  have hr : ea = 0 → eb = 0 → xa ≤ xb := fun h h' => by
    have := simple_rises (p := min p1 p2) (bp := min b1 b2) (d := min y1 y2) (p' := max p1 p2) (bp' := max b1 b2) (d' := max y1 y2) (by omega) (by omega) (by omega) (by rw [hA]; exact h) (by rw [hB]; exact h')
    rw [hA, hB] at this; exact this
  have HA := Lib.hid hA; have HB := Lib.hid hB; clear hA hB
  by_cases he : ea = 0
  · by_cases hf : eb = 0
    · have hxy := hr he hf
      subst he; subst hf
      clear hr
      go_enter Try.func4, Try.ntmps4
      go_wp2_with fail
      refine (awake_any _).mono ?_; rintro e w1 ⟨rfl, hw1⟩; obtain ⟨hc1, hf1⟩ := bcell hw1; have hz1 := hw1.size; (try simp only [World.size_alloc, World.size_setCell, World.size_drew, size_drewN, Nat.add_one_le_iff] at hz1); (try have hy1 : w.heap.size < w1.heap.size := by omega); (try have hx1 : w.heap.size + 1 < w1.heap.size := by omega); have HW1 := Lib.hid hw1; clear hw1
      go_wp2_with fail
      refine (simple_any (min p1 p2) (min b1 b2) (min y1 y2) _).mono ?_; rintro e w2 ⟨rfl, hw2⟩; obtain ⟨hc2, hf2⟩ := bcell hw2; have hz2 := hw2.size; (try simp only [World.size_alloc, World.size_setCell, World.size_drew, size_drewN, Nat.add_one_le_iff] at hz2); (try have hy2 : w.heap.size < w2.heap.size := by omega); (try have hx2 : w.heap.size + 1 < w2.heap.size := by omega); have HW2 := Lib.hid hw2; clear hw2
      rw [HA.out]
      go_wp2_with fail
      refine (simple_any (max p1 p2) (max b1 b2) (max y1 y2) _).mono ?_; rintro e w3 ⟨rfl, hw3⟩; obtain ⟨hc3, hf3⟩ := bcell hw3; have hz3 := hw3.size; (try simp only [World.size_alloc, World.size_setCell, World.size_drew, size_drewN, Nat.add_one_le_iff] at hz3); (try have hy3 : w.heap.size < w3.heap.size := by omega); (try have hx3 : w.heap.size + 1 < w3.heap.size := by omega); have HW3 := Lib.hid hw3; clear hw3
      rw [HB.out]
      go_wp2_with fail
      go_ret
      exact ⟨by simp, (by repeat' (first | (with_reducible exact Below.refl _ _) | (with_reducible refine Below.alloc ?_ ?_ _) | (with_reducible refine below_drewN ?_ _) | (with_reducible refine Below.drew ?_) | (with_reducible refine Below.setCell ?_ ?_ _) | (with_reducible refine Below.trans ?_ (Below.mono HW0.out ?_)) | (with_reducible refine Below.trans ?_ (Below.mono HW1.out ?_)) | (with_reducible refine Below.trans ?_ (Below.mono HW2.out ?_)) | (with_reducible refine Below.trans ?_ (Below.mono HW3.out ?_)) | (with_reducible refine Below.trans ?_ (Below.mono HW4.out ?_)) | (with_reducible refine Below.trans ?_ (Below.mono HW5.out ?_)) | (with_reducible refine Below.trans ?_ (Below.mono HW6.out ?_)) | (with_reducible refine Below.trans ?_ (Below.mono HW7.out ?_)) | (with_reducible exact Nat.le_refl _) | omega | (simp only [World.size_alloc, World.size_setCell, World.size_drew, size_drewN]; omega) | (simp; done) | (simp; omega)))⟩
    · have hf' : (eb != 0) = true := by simpa using hf
      subst he
      clear hr hf
      go_enter Try.func4, Try.ntmps4
      go_wp2_with fail
      refine (awake_any _).mono ?_; rintro e w1 ⟨rfl, hw1⟩; obtain ⟨hc1, hf1⟩ := bcell hw1; have hz1 := hw1.size; (try simp only [World.size_alloc, World.size_setCell, World.size_drew, size_drewN, Nat.add_one_le_iff] at hz1); (try have hy1 : w.heap.size < w1.heap.size := by omega); (try have hx1 : w.heap.size + 1 < w1.heap.size := by omega); have HW1 := Lib.hid hw1; clear hw1
      go_wp2_with fail
      refine (simple_any (min p1 p2) (min b1 b2) (min y1 y2) _).mono ?_; rintro e w2 ⟨rfl, hw2⟩; obtain ⟨hc2, hf2⟩ := bcell hw2; have hz2 := hw2.size; (try simp only [World.size_alloc, World.size_setCell, World.size_drew, size_drewN, Nat.add_one_le_iff] at hz2); (try have hy2 : w.heap.size < w2.heap.size := by omega); (try have hx2 : w.heap.size + 1 < w2.heap.size := by omega); have HW2 := Lib.hid hw2; clear hw2
      rw [HA.out]
      go_wp2_with fail
      refine (simple_any (max p1 p2) (max b1 b2) (max y1 y2) _).mono ?_; rintro e w3 ⟨rfl, hw3⟩; obtain ⟨hc3, hf3⟩ := bcell hw3; have hz3 := hw3.size; (try simp only [World.size_alloc, World.size_setCell, World.size_drew, size_drewN, Nat.add_one_le_iff] at hz3); (try have hy3 : w.heap.size < w3.heap.size := by omega); (try have hx3 : w.heap.size + 1 < w3.heap.size := by omega); have HW3 := Lib.hid hw3; clear hw3
      rw [HB.out]
      go_wp2_with fail
      go_ret
      exact ⟨by simp, (by repeat' (first | (with_reducible exact Below.refl _ _) | (with_reducible refine Below.alloc ?_ ?_ _) | (with_reducible refine below_drewN ?_ _) | (with_reducible refine Below.drew ?_) | (with_reducible refine Below.setCell ?_ ?_ _) | (with_reducible refine Below.trans ?_ (Below.mono HW0.out ?_)) | (with_reducible refine Below.trans ?_ (Below.mono HW1.out ?_)) | (with_reducible refine Below.trans ?_ (Below.mono HW2.out ?_)) | (with_reducible refine Below.trans ?_ (Below.mono HW3.out ?_)) | (with_reducible refine Below.trans ?_ (Below.mono HW4.out ?_)) | (with_reducible refine Below.trans ?_ (Below.mono HW5.out ?_)) | (with_reducible refine Below.trans ?_ (Below.mono HW6.out ?_)) | (with_reducible refine Below.trans ?_ (Below.mono HW7.out ?_)) | (with_reducible exact Nat.le_refl _) | omega | (simp only [World.size_alloc, World.size_setCell, World.size_drew, size_drewN]; omega) | (simp; done) | (simp; omega)))⟩
  · have he' : (ea != 0) = true := by simpa using he
    clear hr he
    go_enter Try.func4, Try.ntmps4
    go_wp2_with fail
    refine (awake_any _).mono ?_; rintro e w1 ⟨rfl, hw1⟩; obtain ⟨hc1, hf1⟩ := bcell hw1; have hz1 := hw1.size; (try simp only [World.size_alloc, World.size_setCell, World.size_drew, size_drewN, Nat.add_one_le_iff] at hz1); (try have hy1 : w.heap.size < w1.heap.size := by omega); (try have hx1 : w.heap.size + 1 < w1.heap.size := by omega); have HW1 := Lib.hid hw1; clear hw1
    go_wp2_with fail
    refine (simple_any (min p1 p2) (min b1 b2) (min y1 y2) _).mono ?_; rintro e w2 ⟨rfl, hw2⟩; obtain ⟨hc2, hf2⟩ := bcell hw2; have hz2 := hw2.size; (try simp only [World.size_alloc, World.size_setCell, World.size_drew, size_drewN, Nat.add_one_le_iff] at hz2); (try have hy2 : w.heap.size < w2.heap.size := by omega); (try have hx2 : w.heap.size + 1 < w2.heap.size := by omega); have HW2 := Lib.hid hw2; clear hw2
    rw [HA.out]
    go_wp2_with fail
    refine (simple_any (max p1 p2) (max b1 b2) (max y1 y2) _).mono ?_; rintro e w3 ⟨rfl, hw3⟩; obtain ⟨hc3, hf3⟩ := bcell hw3; have hz3 := hw3.size; (try simp only [World.size_alloc, World.size_setCell, World.size_drew, size_drewN, Nat.add_one_le_iff] at hz3); (try have hy3 : w.heap.size < w3.heap.size := by omega); (try have hx3 : w.heap.size + 1 < w3.heap.size := by omega); have HW3 := Lib.hid hw3; clear hw3
    rw [HB.out]
    go_wp2_with fail
    go_ret
    exact ⟨by simp, (by repeat' (first | (with_reducible exact Below.refl _ _) | (with_reducible refine Below.alloc ?_ ?_ _) | (with_reducible refine below_drewN ?_ _) | (with_reducible refine Below.drew ?_) | (with_reducible refine Below.setCell ?_ ?_ _) | (with_reducible refine Below.trans ?_ (Below.mono HW0.out ?_)) | (with_reducible refine Below.trans ?_ (Below.mono HW1.out ?_)) | (with_reducible refine Below.trans ?_ (Below.mono HW2.out ?_)) | (with_reducible refine Below.trans ?_ (Below.mono HW3.out ?_)) | (with_reducible refine Below.trans ?_ (Below.mono HW4.out ?_)) | (with_reducible refine Below.trans ?_ (Below.mono HW5.out ?_)) | (with_reducible refine Below.trans ?_ (Below.mono HW6.out ?_)) | (with_reducible refine Below.trans ?_ (Below.mono HW7.out ?_)) | (with_reducible exact Nat.le_refl _) | omega | (simp only [World.size_alloc, World.size_setCell, World.size_drew, size_drewN]; omega) | (simp; done) | (simp; omega)))⟩
end Go.Proofs.Ytpfcajekbkpabaa
