/- The walk of NumLists. -/
import Derived.Test.YtddbmaoighimmaaL0
namespace Go.Proofs.Ytddbmaoighimmaa
open Go.RowKit Go
set_option linter.unusedVariables false
set_option linter.unusedSimpArgs false

set_option maxHeartbeats 400000 in
theorem numLists_walk (A : Option Addr) (zs : List Int) (c : Nat) (w : World) (hr : Rd w w.heap.size 1 A zs.length (ints zs)) (hm : zs.length ≤ maxLen) :
    Calls Try.prog 3 #[.slice A zs.length c] w fun e w' => e = .returned (.bool true) ∧ Below w.heap.size w w' := by
  unfold maxLen at hm
  go_enter Try.func3, Try.ntmps3
  go_wp2_with fail
  refine (awake_any w).mono ?_; rintro e w1 ⟨rfl, hw1⟩
  have hr1 := (hr.below hw1).wider hw1.size
  obtain ⟨hc1, hf1⟩ := bcell hw1; have hz1 := hw1.size; (try simp only [World.size_alloc, World.size_setCell, World.size_drew, size_drewN, Nat.add_one_le_iff] at hz1); (try have hy1 : w.heap.size < w1.heap.size := by omega); (try have hx1 : w.heap.size + 1 < w1.heap.size := by omega); have HW1 := Lib.hid hw1; clear hw1
  by_cases h : 100000 < zs.length
  · go_wp2_with fail
    go_ret
    exact ⟨rfl, (by repeat' (first | (with_reducible exact Below.refl _ _) | (with_reducible refine Below.alloc ?_ ?_ _) | (with_reducible refine below_drewN ?_ _) | (with_reducible refine Below.drew ?_) | (with_reducible refine Below.setCell ?_ ?_ _) | (with_reducible refine Below.trans ?_ (Below.mono HW0.out ?_)) | (with_reducible refine Below.trans ?_ (Below.mono HW1.out ?_)) | (with_reducible refine Below.trans ?_ (Below.mono HW2.out ?_)) | (with_reducible refine Below.trans ?_ (Below.mono HW3.out ?_)) | (with_reducible refine Below.trans ?_ (Below.mono HW4.out ?_)) | (with_reducible refine Below.trans ?_ (Below.mono HW5.out ?_)) | (with_reducible refine Below.trans ?_ (Below.mono HW6.out ?_)) | (with_reducible refine Below.trans ?_ (Below.mono HW7.out ?_)) | (with_reducible exact Nat.le_refl _) | omega | (simp only [World.size_alloc, World.size_setCell, World.size_drew, size_drewN]; omega) | (simp; done) | (simp; omega)))⟩
  · go_wp2_with fail
    refine (sum_any A zs c w1 hr1 (by omega)).mono ?_; rintro e w2 ⟨rfl, hw2⟩
    have hr2 := (hr1.below hw2).wider hw2.size
    obtain ⟨hc2, hf2⟩ := bcell hw2; have hz2 := hw2.size; (try simp only [World.size_alloc, World.size_setCell, World.size_drew, size_drewN, Nat.add_one_le_iff] at hz2); (try have hy2 : w.heap.size < w2.heap.size := by omega); (try have hx2 : w.heap.size + 1 < w2.heap.size := by omega); have HW2 := Lib.hid hw2; clear hw2
    go_wp2_with fail
    refine (rsum_any A zs c w2 hr2 (by omega)).mono ?_; rintro e w3 ⟨rfl, hw3⟩
    obtain ⟨hc3, hf3⟩ := bcell hw3; have hz3 := hw3.size; (try simp only [World.size_alloc, World.size_setCell, World.size_drew, size_drewN, Nat.add_one_le_iff] at hz3); (try have hy3 : w.heap.size < w3.heap.size := by omega); (try have hx3 : w.heap.size + 1 < w3.heap.size := by omega); have HW3 := Lib.hid hw3; clear hw3
    go_wp2_with fail
    go_ret
    exact ⟨rfl, (by repeat' (first | (with_reducible exact Below.refl _ _) | (with_reducible refine Below.alloc ?_ ?_ _) | (with_reducible refine below_drewN ?_ _) | (with_reducible refine Below.drew ?_) | (with_reducible refine Below.setCell ?_ ?_ _) | (with_reducible refine Below.trans ?_ (Below.mono HW0.out ?_)) | (with_reducible refine Below.trans ?_ (Below.mono HW1.out ?_)) | (with_reducible refine Below.trans ?_ (Below.mono HW2.out ?_)) | (with_reducible refine Below.trans ?_ (Below.mono HW3.out ?_)) | (with_reducible refine Below.trans ?_ (Below.mono HW4.out ?_)) | (with_reducible refine Below.trans ?_ (Below.mono HW5.out ?_)) | (with_reducible refine Below.trans ?_ (Below.mono HW6.out ?_)) | (with_reducible refine Below.trans ?_ (Below.mono HW7.out ?_)) | (with_reducible exact Nat.le_refl _) | omega | (simp only [World.size_alloc, World.size_setCell, World.size_drew, size_drewN]; omega) | (simp; done) | (simp; omega)))⟩
end Go.Proofs.Ytddbmaoighimmaa
