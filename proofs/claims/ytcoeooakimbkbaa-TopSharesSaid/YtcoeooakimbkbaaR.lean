/- the reference's wide numbers: plus, less, minus, by digits. -/
import Derived.Test.YtcoeooakimbkbaaProg
import Derived.Test.YtcoeooakimbkbaaW
namespace Go.Proofs.Ytcoeooakimbkbaa
open Go.RowKit Go
set_option linter.unusedSimpArgs false
set_option linter.unusedVariables false

/-- The size that four digits of base 2^32 are. -/
def V (a0 a1 a2 a3 : Int) : Int := a0 + 4294967296 * (a1 + 4294967296 * (a2 + 4294967296 * a3))
@[reducible] def d4 (a0 a1 a2 a3 : Int) : Value := .agg #[.int .u64 a0, .int .u64 a1, .int .u64 a2, .int .u64 a3]

theorem ret_bool {a b : Bool} (h : a = b) : Ending.returned (.bool a) = .returned (.bool b) := by rw [h]
theorem ret_dec {p q : Prop} [Decidable p] [Decidable q] (h : p ↔ q) : Ending.returned (.bool (decide p)) = .returned (.bool (decide q)) := by simp [h]

end Go.Proofs.Ytcoeooakimbkbaa
