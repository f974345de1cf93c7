/- right, Right: may a record be? -/
import Derived.Test.YtfcemlcocdhmfaaV
namespace Go.Proofs.Ytfcemlcocdhmfaa
open Go.RowKit Go
set_option linter.unusedVariables false
set_option linter.unusedSimpArgs false

/-- May a record be: its key's length, moment, mark, value's length. -/
def rightN (n : Nat) (seq : Int) (del : Bool) (m : Nat) : Bool := decide (1 ≤ n ∧ n ≤ 512 ∧ 1 ≤ seq ∧ seq ≤ 1099511627776 ∧ m ≤ 4096 ∧ (del = false ∨ m = 0))
theorem right_part1 (m : Nat) (del : Bool) : (m ≤ 4096 ∧ del = false) ∨ (m = 0 ∧ del = true) ∨ (m ≤ 4096 ∧ 0 < m ∧ del = true) ∨ 4096 < m := by cases del <;> simp <;> omega
theorem right_part2 (n : Nat) (seq : Int) : n = 0 ∨ 512 < n ∨ (1 ≤ n ∧ n ≤ 512 ∧ seq < 1) ∨ (1 ≤ n ∧ n ≤ 512 ∧ 1099511627776 < seq) ∨ (1 ≤ n ∧ n ≤ 512 ∧ 1 ≤ seq ∧ seq ≤ 1099511627776) := by omega
theorem ret_bool {a b : Bool} (h : b = a) : Ending.returned (.bool a) = .returned (.bool b) := by rw [h]

end Go.Proofs.Ytfcemlcocdhmfaa
