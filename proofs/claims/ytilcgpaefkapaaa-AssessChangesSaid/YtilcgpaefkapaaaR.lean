/- the reference's wide numbers: plus, less, minus, by digits. -/
import Derived.Test.YtilcgpaefkapaaaProg
import Derived.Test.YtilcgpaefkapaaaW
namespace Go.Proofs.Ytilcgpaefkapaaa
open Go.RowKit Go
set_option linter.unusedSimpArgs false
set_option linter.unusedVariables false

/-- The size that four digits of base 2^32 are. -/
def V (a0 a1 a2 a3 : Int) : Int := a0 + 4294967296 * (a1 + 4294967296 * (a2 + 4294967296 * a3))
@[reducible] def d4 (a0 a1 a2 a3 : Int) : Value := .agg #[.int .u64 a0, .int .u64 a1, .int .u64 a2, .int .u64 a3]

set_option maxHeartbeats 400000 in
theorem plus_any (a0 a1 a2 a3 b0 b1 b2 b3 : Int) (w : World) (ha0 : 0 ≤ a0 ∧ a0 ≤ 4294967295) (ha1 : 0 ≤ a1 ∧ a1 ≤ 4294967295) (ha2 : 0 ≤ a2 ∧ a2 ≤ 4294967295) (ha3 : 0 ≤ a3 ∧ a3 ≤ 4294967295)
    (hb0 : 0 ≤ b0 ∧ b0 ≤ 4294967295) (hb1 : 0 ≤ b1 ∧ b1 ≤ 4294967295) (hb2 : 0 ≤ b2 ∧ b2 ≤ 4294967295) (hb3 : 0 ≤ b3 ∧ b3 ≤ 4294967295) :
    Calls Try.prog 50 #[d4 a0 a1 a2 a3, d4 b0 b1 b2 b3] w fun e w' =>
      e = .returned (d4 ((a0 + b0) % 4294967296) ((a1 + b1 + (a0 + b0) / 4294967296) % 4294967296) ((a2 + b2 + (a1 + b1 + (a0 + b0) / 4294967296) / 4294967296) % 4294967296) ((a3 + b3 + (a2 + b2 + (a1 + b1 + (a0 + b0) / 4294967296) / 4294967296) / 4294967296) % 4294967296)) ∧ Below w.heap.size w w' := by
  go_enter Try.func50, Try.ntmps50
  go_wp2
  refine wp_loop_rounds 5 ?_
  rw [rounds_succ]; go_wp2; go_quiet (fail); go_wp2
  rw [rounds_succ]; go_wp2; go_quiet (fail); go_wp2
  rw [rounds_succ]; go_wp2; go_quiet (fail); go_wp2
  rw [rounds_succ]; go_wp2; go_quiet (fail); go_wp2
  rw [rounds_succ]; go_wp2
  refine bodyPost_ret (v := d4 _ _ _ _) (by simp [results, Try.results50, go_sem]) rfl ⟨rfl, (by repeat' (first | (with_reducible exact Below.refl _ _) | (with_reducible refine Below.alloc ?_ ?_ _) | (with_reducible refine below_drewN ?_ _) | (with_reducible refine Below.drew ?_) | (with_reducible refine Below.setCell ?_ ?_ _) | (with_reducible refine Below.trans ?_ (Below.mono HW0.out ?_)) | (with_reducible refine Below.trans ?_ (Below.mono HW1.out ?_)) | (with_reducible refine Below.trans ?_ (Below.mono HW2.out ?_)) | (with_reducible refine Below.trans ?_ (Below.mono HW3.out ?_)) | (with_reducible refine Below.trans ?_ (Below.mono HW4.out ?_)) | (with_reducible refine Below.trans ?_ (Below.mono HW5.out ?_)) | (with_reducible refine Below.trans ?_ (Below.mono HW6.out ?_)) | (with_reducible refine Below.trans ?_ (Below.mono HW7.out ?_)) | (with_reducible exact Nat.le_refl _) | omega | (simp only [World.size_alloc, World.size_setCell, World.size_drew, size_drewN]; omega) | (simp; done) | (simp; omega)))⟩

set_option maxHeartbeats 400000 in
theorem minus_any (a0 a1 a2 a3 b0 b1 b2 b3 : Int) (w : World) (ha0 : 0 ≤ a0 ∧ a0 ≤ 4294967295) (ha1 : 0 ≤ a1 ∧ a1 ≤ 4294967295) (ha2 : 0 ≤ a2 ∧ a2 ≤ 4294967295) (ha3 : 0 ≤ a3 ∧ a3 ≤ 4294967295)
    (hb0 : 0 ≤ b0 ∧ b0 ≤ 4294967295) (hb1 : 0 ≤ b1 ∧ b1 ≤ 4294967295) (hb2 : 0 ≤ b2 ∧ b2 ≤ 4294967295) (hb3 : 0 ≤ b3 ∧ b3 ≤ 4294967295) :
    Calls Try.prog 60 #[d4 a0 a1 a2 a3, d4 b0 b1 b2 b3] w fun e w' =>
      (∃ s0 s1 s2 s3, s0 = a0 + 4294967296 - b0 ∧ s1 = a1 + 4294967296 - b1 - (1 - s0 / 4294967296) ∧ s2 = a2 + 4294967296 - b2 - (1 - s1 / 4294967296) ∧ s3 = a3 + 4294967296 - b3 - (1 - s2 / 4294967296) ∧
        e = .returned (d4 (s0 % 4294967296) (s1 % 4294967296) (s2 % 4294967296) (s3 % 4294967296))) ∧ Below w.heap.size w w' := by
  go_enter Try.func60, Try.ntmps60
  go_wp2
  refine wp_loop_rounds 5 ?_
  rw [rounds_succ]; go_wp2; go_quiet (fail); go_wp2
  rw [rounds_succ]; go_wp2; go_quiet (fail); go_wp2
  rw [rounds_succ]; go_wp2; go_quiet (fail); go_wp2
  rw [rounds_succ]; go_wp2; go_quiet (fail); go_wp2
  rw [rounds_succ]; go_wp2
  refine bodyPost_ret (v := d4 _ _ _ _) (by simp [results, Try.results60, go_sem]) rfl ⟨⟨_, _, _, _, rfl, rfl, rfl, rfl, rfl⟩, (by repeat' (first | (with_reducible exact Below.refl _ _) | (with_reducible refine Below.alloc ?_ ?_ _) | (with_reducible refine below_drewN ?_ _) | (with_reducible refine Below.drew ?_) | (with_reducible refine Below.setCell ?_ ?_ _) | (with_reducible refine Below.trans ?_ (Below.mono HW0.out ?_)) | (with_reducible refine Below.trans ?_ (Below.mono HW1.out ?_)) | (with_reducible refine Below.trans ?_ (Below.mono HW2.out ?_)) | (with_reducible refine Below.trans ?_ (Below.mono HW3.out ?_)) | (with_reducible refine Below.trans ?_ (Below.mono HW4.out ?_)) | (with_reducible refine Below.trans ?_ (Below.mono HW5.out ?_)) | (with_reducible refine Below.trans ?_ (Below.mono HW6.out ?_)) | (with_reducible refine Below.trans ?_ (Below.mono HW7.out ?_)) | (with_reducible exact Nat.le_refl _) | omega | (simp only [World.size_alloc, World.size_setCell, World.size_drew, size_drewN]; omega) | (simp; done) | (simp; omega)))⟩

theorem ret_bool {a b : Bool} (h : a = b) : Ending.returned (.bool a) = .returned (.bool b) := by rw [h]
theorem ret_dec {p q : Prop} [Decidable p] [Decidable q] (h : p ↔ q) : Ending.returned (.bool (decide p)) = .returned (.bool (decide q)) := by simp [h]

set_option maxHeartbeats 400000 in
theorem less_any (a0 a1 a2 a3 b0 b1 b2 b3 : Int) (w : World) (ha0 : 0 ≤ a0 ∧ a0 ≤ 4294967295) (ha1 : 0 ≤ a1 ∧ a1 ≤ 4294967295) (ha2 : 0 ≤ a2 ∧ a2 ≤ 4294967295) (ha3 : 0 ≤ a3 ∧ a3 ≤ 4294967295)
    (hb0 : 0 ≤ b0 ∧ b0 ≤ 4294967295) (hb1 : 0 ≤ b1 ∧ b1 ≤ 4294967295) (hb2 : 0 ≤ b2 ∧ b2 ≤ 4294967295) (hb3 : 0 ≤ b3 ∧ b3 ≤ 4294967295) :
    Calls Try.prog 51 #[d4 a0 a1 a2 a3, d4 b0 b1 b2 b3] w fun e w' => e = .returned (.bool (decide (V a0 a1 a2 a3 < V b0 b1 b2 b3))) ∧ Below w.heap.size w w' := by
  go_enter Try.func51, Try.ntmps51
  go_wp2
  refine wp_loop_rounds 5 ?_
  rw [rounds_succ]; go_wp2; go_quiet (fail); go_wp2
  · have h3 : a3 ≠ b3 := by simpa using ‹(a3 != b3) = true›
    go_quiet (fail); go_wp2; go_ret
    exact ⟨ret_dec (by unfold V; omega), (by repeat' (first | (with_reducible exact Below.refl _ _) | (with_reducible refine Below.alloc ?_ ?_ _) | (with_reducible refine below_drewN ?_ _) | (with_reducible refine Below.drew ?_) | (with_reducible refine Below.setCell ?_ ?_ _) | (with_reducible refine Below.trans ?_ (Below.mono HW0.out ?_)) | (with_reducible refine Below.trans ?_ (Below.mono HW1.out ?_)) | (with_reducible refine Below.trans ?_ (Below.mono HW2.out ?_)) | (with_reducible refine Below.trans ?_ (Below.mono HW3.out ?_)) | (with_reducible refine Below.trans ?_ (Below.mono HW4.out ?_)) | (with_reducible refine Below.trans ?_ (Below.mono HW5.out ?_)) | (with_reducible refine Below.trans ?_ (Below.mono HW6.out ?_)) | (with_reducible refine Below.trans ?_ (Below.mono HW7.out ?_)) | (with_reducible exact Nat.le_refl _) | omega | (simp only [World.size_alloc, World.size_setCell, World.size_drew, size_drewN]; omega) | (simp; done) | (simp; omega)))⟩
  have H3 := Lib.hid (show a3 = b3 by simpa using ‹(a3 != b3) = false›)
  rw [rounds_succ]; go_wp2; go_quiet (fail); go_wp2
  · have h2 : a2 ≠ b2 := by simpa using ‹(a2 != b2) = true›
    go_quiet (fail); go_wp2; go_ret
    have h3 := H3.out
    exact ⟨ret_dec (by unfold V; omega), (by repeat' (first | (with_reducible exact Below.refl _ _) | (with_reducible refine Below.alloc ?_ ?_ _) | (with_reducible refine below_drewN ?_ _) | (with_reducible refine Below.drew ?_) | (with_reducible refine Below.setCell ?_ ?_ _) | (with_reducible refine Below.trans ?_ (Below.mono HW0.out ?_)) | (with_reducible refine Below.trans ?_ (Below.mono HW1.out ?_)) | (with_reducible refine Below.trans ?_ (Below.mono HW2.out ?_)) | (with_reducible refine Below.trans ?_ (Below.mono HW3.out ?_)) | (with_reducible refine Below.trans ?_ (Below.mono HW4.out ?_)) | (with_reducible refine Below.trans ?_ (Below.mono HW5.out ?_)) | (with_reducible refine Below.trans ?_ (Below.mono HW6.out ?_)) | (with_reducible refine Below.trans ?_ (Below.mono HW7.out ?_)) | (with_reducible exact Nat.le_refl _) | omega | (simp only [World.size_alloc, World.size_setCell, World.size_drew, size_drewN]; omega) | (simp; done) | (simp; omega)))⟩
  have H2 := Lib.hid (show a2 = b2 by simpa using ‹(a2 != b2) = false›)
  rw [rounds_succ]; go_wp2; go_quiet (fail); go_wp2
  · have h1 : a1 ≠ b1 := by simpa using ‹(a1 != b1) = true›
    go_quiet (fail); go_wp2; go_ret
    have h3 := H3.out
    have h2 := H2.out
    exact ⟨ret_dec (by unfold V; omega), (by repeat' (first | (with_reducible exact Below.refl _ _) | (with_reducible refine Below.alloc ?_ ?_ _) | (with_reducible refine below_drewN ?_ _) | (with_reducible refine Below.drew ?_) | (with_reducible refine Below.setCell ?_ ?_ _) | (with_reducible refine Below.trans ?_ (Below.mono HW0.out ?_)) | (with_reducible refine Below.trans ?_ (Below.mono HW1.out ?_)) | (with_reducible refine Below.trans ?_ (Below.mono HW2.out ?_)) | (with_reducible refine Below.trans ?_ (Below.mono HW3.out ?_)) | (with_reducible refine Below.trans ?_ (Below.mono HW4.out ?_)) | (with_reducible refine Below.trans ?_ (Below.mono HW5.out ?_)) | (with_reducible refine Below.trans ?_ (Below.mono HW6.out ?_)) | (with_reducible refine Below.trans ?_ (Below.mono HW7.out ?_)) | (with_reducible exact Nat.le_refl _) | omega | (simp only [World.size_alloc, World.size_setCell, World.size_drew, size_drewN]; omega) | (simp; done) | (simp; omega)))⟩
  have H1 := Lib.hid (show a1 = b1 by simpa using ‹(a1 != b1) = false›)
  rw [rounds_succ]; go_wp2; go_quiet (fail); go_wp2
  · have h0 : a0 ≠ b0 := by simpa using ‹(a0 != b0) = true›
    go_quiet (fail); go_wp2; go_ret
    have h3 := H3.out
    have h2 := H2.out
    have h1 := H1.out
    exact ⟨ret_dec (by unfold V; omega), (by repeat' (first | (with_reducible exact Below.refl _ _) | (with_reducible refine Below.alloc ?_ ?_ _) | (with_reducible refine below_drewN ?_ _) | (with_reducible refine Below.drew ?_) | (with_reducible refine Below.setCell ?_ ?_ _) | (with_reducible refine Below.trans ?_ (Below.mono HW0.out ?_)) | (with_reducible refine Below.trans ?_ (Below.mono HW1.out ?_)) | (with_reducible refine Below.trans ?_ (Below.mono HW2.out ?_)) | (with_reducible refine Below.trans ?_ (Below.mono HW3.out ?_)) | (with_reducible refine Below.trans ?_ (Below.mono HW4.out ?_)) | (with_reducible refine Below.trans ?_ (Below.mono HW5.out ?_)) | (with_reducible refine Below.trans ?_ (Below.mono HW6.out ?_)) | (with_reducible refine Below.trans ?_ (Below.mono HW7.out ?_)) | (with_reducible exact Nat.le_refl _) | omega | (simp only [World.size_alloc, World.size_setCell, World.size_drew, size_drewN]; omega) | (simp; done) | (simp; omega)))⟩
  have H0 := Lib.hid (show a0 = b0 by simpa using ‹(a0 != b0) = false›)
  rw [rounds_succ]; go_wp2; go_ret
  have h3 := H3.out
  have h2 := H2.out
  have h1 := H1.out
  have h0 := H0.out
  exact ⟨ret_bool (by symm; rw [decide_eq_false_iff_not]; unfold V; omega), (by repeat' (first | (with_reducible exact Below.refl _ _) | (with_reducible refine Below.alloc ?_ ?_ _) | (with_reducible refine below_drewN ?_ _) | (with_reducible refine Below.drew ?_) | (with_reducible refine Below.setCell ?_ ?_ _) | (with_reducible refine Below.trans ?_ (Below.mono HW0.out ?_)) | (with_reducible refine Below.trans ?_ (Below.mono HW1.out ?_)) | (with_reducible refine Below.trans ?_ (Below.mono HW2.out ?_)) | (with_reducible refine Below.trans ?_ (Below.mono HW3.out ?_)) | (with_reducible refine Below.trans ?_ (Below.mono HW4.out ?_)) | (with_reducible refine Below.trans ?_ (Below.mono HW5.out ?_)) | (with_reducible refine Below.trans ?_ (Below.mono HW6.out ?_)) | (with_reducible refine Below.trans ?_ (Below.mono HW7.out ?_)) | (with_reducible exact Nat.le_refl _) | omega | (simp only [World.size_alloc, World.size_setCell, World.size_drew, size_drewN]; omega) | (simp; done) | (simp; omega)))⟩
end Go.Proofs.Ytilcgpaefkapaaa
