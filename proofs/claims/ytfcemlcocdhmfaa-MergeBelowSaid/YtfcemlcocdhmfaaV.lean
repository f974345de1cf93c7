/- levels: of a draw. -/
import Derived.Test.YtfcemlcocdhmfaaC
namespace Go.Proofs.Ytfcemlcocdhmfaa
open Go.RowKit Go
set_option linter.unusedVariables false
set_option linter.unusedSimpArgs false

def levN : Nat → Nat → Nat
  | 0, _ => 12
  | f + 1, d => if d % 4 = 0 then levN f (d / 4) else 12 - (f + 1)
/-- So many levels has a draw. -/
def levS (draw : Int) : Nat := if draw < 0 then 1 else levN 11 draw.toNat
theorem levN_step (f d : Nat) : levN f d = if f = 0 then 12 else if d % 4 = 0 then levN (f - 1) (d / 4) else 12 - f := by cases f <;> simp [levN]
theorem levN_low : ∀ f d, f ≤ 11 → 1 ≤ levN f d ∧ levN f d ≤ 12
  | 0, _, _ => by simp [levN]
  | f + 1, d, h => by
    unfold levN; split
    · exact levN_low f _ (by omega)
    · omega
theorem levS_low (draw : Int) : 1 ≤ levS draw ∧ levS draw ≤ 12 := by
  unfold levS; split
  · omega
  · exact levN_low 11 _ (by omega)

theorem tm4 (d : Nat) : Int.tmod (d : Int) 4 = ((d % 4 : Nat) : Int) := (Int.ofNat_tmod d 4).symm
theorem and_3 (d : Nat) (h : d < 9223372036854775808) : bits .and .i64 (d : Int) 3 = ((d % 4 : Nat) : Int) := by
  have h1 : (BitVec.ofInt 64 (d : Int)).toNat = d := by
    rw [BitVec.ofInt_natCast, BitVec.toNat_ofNat]; exact Nat.mod_eq_of_lt (by omega)
  have h2 : (BitVec.ofInt 64 (3 : Int)).toNat = 3 := rfl
  have h3 : d &&& 3 = d % 4 := Nat.and_two_pow_sub_one_eq_mod d 2
  show IntKind.i64.wrap ((BitVec.ofInt 64 (d : Int) &&& BitVec.ofInt 64 (3 : Int)).toNat : Int) = _
  rw [BitVec.toNat_and, h1, h2, h3]
  exact IntWalk.i64_in _ (by omega)

end Go.Proofs.Ytfcemlcocdhmfaa
