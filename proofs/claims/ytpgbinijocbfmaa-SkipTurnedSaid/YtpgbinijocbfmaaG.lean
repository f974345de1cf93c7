/- right, Right: may a record be? -/
import Derived.Test.YtpgbinijocbfmaaV
namespace Go.Proofs.Ytpgbinijocbfmaa
open Go.RowKit Go
set_option linter.unusedVariables false
set_option linter.unusedSimpArgs false

/-- May a record be: its key's length, moment, mark, value's length. -/
def rightN (n : Nat) (seq : Int) (del : Bool) (m : Nat) : Bool := decide (1 ≤ n ∧ n ≤ 512 ∧ 1 ≤ seq ∧ seq ≤ 1099511627776 ∧ m ≤ 4096 ∧ (del = false ∨ m = 0))
theorem right_part1 (m : Nat) (del : Bool) : (m ≤ 4096 ∧ del = false) ∨ (m = 0 ∧ del = true) ∨ (m ≤ 4096 ∧ 0 < m ∧ del = true) ∨ 4096 < m := by cases del <;> simp <;> omega
theorem right_part2 (n : Nat) (seq : Int) : n = 0 ∨ 512 < n ∨ (1 ≤ n ∧ n ≤ 512 ∧ seq < 1) ∨ (1 ≤ n ∧ n ≤ 512 ∧ 1099511627776 < seq) ∨ (1 ≤ n ∧ n ≤ 512 ∧ 1 ≤ seq ∧ seq ≤ 1099511627776) := by omega
theorem ret_bool {a b : Bool} (h : b = a) : Ending.returned (.bool a) = .returned (.bool b) := by rw [h]

set_option maxHeartbeats 1600000 in
theorem right_any (A A' : Option Addr) (n c m c' : Nat) (seq : Int) (del : Bool) (w : World) :
    Calls Try.prog 23 #[.agg #[.slice A n c, .int .i64 seq, .bool del, .slice A' m c']] w fun e w' => e = .returned (.bool (rightN n seq del m)) ∧ Below w.heap.size w w' := by
  rcases right_part1 m del with ⟨h1, rfl⟩ | ⟨rfl, rfl⟩ | ⟨h1, h2, rfl⟩ | h1 <;> rcases right_part2 n seq with rfl | h3 | ⟨h3, h4, h5⟩ | ⟨h3, h4, h5⟩ | ⟨h3, h4, h5, h6⟩
  all_goals (try have hq : ((m : Int) == 0) = false := by simp; omega)
  all_goals
    go_enter Try.func23, Try.ntmps23
    go_wp2_with fail
    go_ret
    exact ⟨ret_bool (by simp [rightN]; try omega), (by repeat' (first | (with_reducible exact Below.refl _ _) | (with_reducible refine Below.alloc ?_ ?_ _) | (with_reducible refine below_drewN ?_ _) | (with_reducible refine Below.drew ?_) | (with_reducible refine Below.setCell ?_ ?_ _) | (with_reducible refine Below.trans ?_ (Below.mono HW0.out ?_)) | (with_reducible refine Below.trans ?_ (Below.mono HW1.out ?_)) | (with_reducible refine Below.trans ?_ (Below.mono HW2.out ?_)) | (with_reducible refine Below.trans ?_ (Below.mono HW3.out ?_)) | (with_reducible refine Below.trans ?_ (Below.mono HW4.out ?_)) | (with_reducible refine Below.trans ?_ (Below.mono HW5.out ?_)) | (with_reducible refine Below.trans ?_ (Below.mono HW6.out ?_)) | (with_reducible refine Below.trans ?_ (Below.mono HW7.out ?_)) | (with_reducible exact Nat.le_refl _) | omega | (simp only [World.size_alloc, World.size_setCell, World.size_drew, size_drewN]; omega) | (simp; done) | (simp; omega)))⟩

set_option maxHeartbeats 1600000 in
theorem right_ref (A A' : Option Addr) (n c m c' : Nat) (seq : Int) (del : Bool) (w : World) :
    Calls Try.prog 28 #[.agg #[.slice A n c, .int .i64 seq, .bool del, .slice A' m c']] w fun e w' => e = .returned (.bool (rightN n seq del m)) ∧ Below w.heap.size w w' := by
  rcases right_part1 m del with ⟨h1, rfl⟩ | ⟨rfl, rfl⟩ | ⟨h1, h2, rfl⟩ | h1 <;> rcases right_part2 n seq with rfl | h3 | ⟨h3, h4, h5⟩ | ⟨h3, h4, h5⟩ | ⟨h3, h4, h5, h6⟩
  all_goals (try have hq : ((m : Int) == 0) = false := by simp; omega)
  all_goals
    go_enter Try.func28, Try.ntmps28
    go_wp2_with fail
    go_ret
    exact ⟨ret_bool (by simp [rightN]; try omega), (by repeat' (first | (with_reducible exact Below.refl _ _) | (with_reducible refine Below.alloc ?_ ?_ _) | (with_reducible refine below_drewN ?_ _) | (with_reducible refine Below.drew ?_) | (with_reducible refine Below.setCell ?_ ?_ _) | (with_reducible refine Below.trans ?_ (Below.mono HW0.out ?_)) | (with_reducible refine Below.trans ?_ (Below.mono HW1.out ?_)) | (with_reducible refine Below.trans ?_ (Below.mono HW2.out ?_)) | (with_reducible refine Below.trans ?_ (Below.mono HW3.out ?_)) | (with_reducible refine Below.trans ?_ (Below.mono HW4.out ?_)) | (with_reducible refine Below.trans ?_ (Below.mono HW5.out ?_)) | (with_reducible refine Below.trans ?_ (Below.mono HW6.out ?_)) | (with_reducible refine Below.trans ?_ (Below.mono HW7.out ?_)) | (with_reducible exact Nat.le_refl _) | omega | (simp only [World.size_alloc, World.size_setCell, World.size_drew, size_drewN]; omega) | (simp; done) | (simp; omega)))⟩
end Go.Proofs.Ytpgbinijocbfmaa
