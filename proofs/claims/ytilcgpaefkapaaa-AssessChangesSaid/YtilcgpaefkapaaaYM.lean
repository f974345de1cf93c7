/- A long division, bit by bit: the plain law. -/
import Derived.Test.YtilcgpaefkapaaaR2
namespace Go.Proofs.Ytilcgpaefkapaaa
open Go.RowKit Go
set_option linter.unusedVariables false

theorem bit_low {x E F : Int} (hE : 0 < E) (hF : 0 < F) (h : E * F * 2 = 4294967296) : x % 4294967296 / E % 2 = x / E % 2 := by
  have e := Int.mul_ediv_add_emod x 4294967296
  have h1 : x % 4294967296 = x + E * (-(F * 2 * (x / 4294967296))) := by
    have : E * (F * 2 * (x / 4294967296)) = 4294967296 * (x / 4294967296) := by rw [← h, ← Int.mul_assoc, ← Int.mul_assoc]
    rw [Int.mul_neg]; omega
  rw [h1, Int.add_mul_ediv_left _ _ (by omega)]
  have : F * 2 * (x / 4294967296) = 2 * (F * (x / 4294967296)) := by rw [Int.mul_comm F 2, Int.mul_assoc]
  rw [this]; omega

theorem pow_parts {e : Nat} (he : e < 32) : (0 : Int) < 2 ^ e ∧ (0 : Int) < 2 ^ (31 - e) ∧ (2 : Int) ^ e * 2 ^ (31 - e) * 2 = 4294967296 := by
  refine ⟨Int.pow_pos (by omega), Int.pow_pos (by omega), ?_⟩
  rw [← Int.pow_add, show e + (31 - e) = 31 by omega]; rfl

/-- The weight of digit d. -/
def wt (d : Nat) : Int := 4294967296 ^ d
theorem wt_pow (d : Nat) : wt d = 2 ^ (32 * d) := by unfold wt; rw [Int.pow_mul]; rfl
theorem dg_wt (d : Nat) (hd : d ≤ 3) (m : Int) : dg d m = m / wt d % 4294967296 := by
  have : d = 0 ∨ d = 1 ∨ d = 2 ∨ d = 3 := by omega
  rcases this with rfl | rfl | rfl | rfl <;> simp [dg, wt]

theorem bit_dg {d e : Nat} (hd : d ≤ 3) (he : e < 32) (m : Int) : dg d m / 2 ^ e % 2 = m / 2 ^ (32 * d + e) % 2 := by
  obtain ⟨p1, p2, p3⟩ := pow_parts he
  rw [dg_wt d hd, bit_low p1 p2 p3, Int.pow_add, ← wt_pow, Int.ediv_ediv_of_nonneg (by unfold wt; exact Int.le_of_lt (Int.pow_pos (by omega)))]

theorem half_pow (m : Int) (i : Nat) (h0 : 0 ≤ m) : m / 2 ^ i = 2 * (m / 2 ^ (i + 1)) + m / 2 ^ i % 2 := by
  have : m / 2 ^ (i + 1) = m / 2 ^ i / 2 := by
    rw [Int.pow_succ, Int.ediv_ediv_of_nonneg (Int.le_of_lt (Int.pow_pos (by omega)))]
  rw [this]; omega

theorem div_step {c K R M b : Int} (hM : M = 2 * (K * c + R) + b) (hb : 0 ≤ b ∧ b ≤ 1) (hR : 0 ≤ R ∧ R < c) :
    (c ≤ 2 * R + b → M = (2 * K + 1) * c + (2 * R + b - c)) ∧ (2 * R + b < c → M = (2 * K) * c + (2 * R + b)) := by
  have e : (2 * K) * c = 2 * (K * c) := Int.mul_assoc _ _ _
  refine ⟨fun _ => ?_, fun _ => ?_⟩
  · rw [Int.add_mul, e, Int.one_mul]; omega
  · rw [e]; omega

/-- The digit that a bit is added to has room. -/
theorem dg_room {d e : Nat} (hd : d ≤ 3) (he : e < 32) (K : Int) (hK : 0 ≤ K) : dg d (K * 2 ^ (32 * d + e + 1)) + 2 ^ e ≤ 4294967295 := by
  obtain ⟨p1, p2, p3⟩ := pow_parts he
  have hb := dg_bd d (K * 2 ^ (32 * d + e + 1))
  have e1 : K * 2 ^ (32 * d + e + 1) = (K * 2 ^ (e + 1)) * wt d := by
    rw [wt_pow, Int.mul_assoc, ← Int.pow_add]; congr 2; omega
  have hw : 0 < wt d := by unfold wt; exact Int.pow_pos (by omega)
  have e2 : dg d (K * 2 ^ (32 * d + e + 1)) = (K * 2 ^ (e + 1)) % 4294967296 := by rw [dg_wt d hd, e1, Int.mul_ediv_cancel _ (by omega)]
  have e3 : (K * 2 ^ (e + 1)) % 4294967296 = 2 ^ e * 2 * (K % 2 ^ (31 - e)) := by
    have : (4294967296 : Int) = 2 ^ e * 2 * 2 ^ (31 - e) := by rw [← p3, Int.mul_assoc, Int.mul_assoc, Int.mul_comm 2]
    rw [this, Int.mul_comm K, Int.pow_succ, Int.mul_emod_mul_of_pos _ _ (by omega)]
  rw [e2] at hb ⊢
  rw [e3] at hb ⊢
  generalize K % 2 ^ (31 - e) = z at *
  generalize (2 : Int) ^ (31 - e) = F at *
  generalize (2 : Int) ^ e = E at *
  have hzF : E * 2 * z < E * 2 * F := by
    have : E * 2 * F = 4294967296 := by rw [← p3, Int.mul_assoc, Int.mul_assoc, Int.mul_comm 2]
    omega
  have hz : z < F := Int.lt_of_mul_lt_mul_left hzF (by omega)
  have h2 : E * 2 * (z + 1) ≤ E * 2 * F := Int.mul_le_mul_of_nonneg_left (by omega) (by omega)
  have h3 : E * 2 * F = 4294967296 := by rw [← p3, Int.mul_assoc, Int.mul_assoc, Int.mul_comm 2]
  rw [Int.mul_add] at h2
  omega

theorem dg_add0 {Q P : Int} (h0 : 0 ≤ Q) (h1 : Q < big) (hP : 0 ≤ P) (h : dg 0 Q + P ≤ 4294967295) : dg 0 (Q + P * wt 0) = dg 0 Q + P ∧ dg 1 (Q + P * wt 0) = dg 1 Q ∧ dg 2 (Q + P * wt 0) = dg 2 Q ∧ dg 3 (Q + P * wt 0) = dg 3 Q := by
  have v := V_dg h0 h1
  have a0 := dg_bd 0 Q; have a1 := dg_bd 1 Q; have a2 := dg_bd 2 Q; have a3 := dg_bd 3 Q
  have := dg_V (a0 := dg 0 Q + P) (a1 := dg 1 Q) (a2 := dg 2 Q) (a3 := dg 3 Q) (by omega) a1 a2 a3
  have e : Q + P * wt 0 = V (dg 0 Q + P) (dg 1 Q) (dg 2 Q) (dg 3 Q) := by
    unfold wt V at *; rw [show (4294967296 : Int) ^ 0 = 1 by rfl]; omega
  rw [e]; exact this
theorem dg_add1 {Q P : Int} (h0 : 0 ≤ Q) (h1 : Q < big) (hP : 0 ≤ P) (h : dg 1 Q + P ≤ 4294967295) : dg 0 (Q + P * wt 1) = dg 0 Q ∧ dg 1 (Q + P * wt 1) = dg 1 Q + P ∧ dg 2 (Q + P * wt 1) = dg 2 Q ∧ dg 3 (Q + P * wt 1) = dg 3 Q := by
  have v := V_dg h0 h1
  have a0 := dg_bd 0 Q; have a1 := dg_bd 1 Q; have a2 := dg_bd 2 Q; have a3 := dg_bd 3 Q
  have := dg_V (a0 := dg 0 Q) (a1 := dg 1 Q + P) (a2 := dg 2 Q) (a3 := dg 3 Q) a0 (by omega) a2 a3
  have e : Q + P * wt 1 = V (dg 0 Q) (dg 1 Q + P) (dg 2 Q) (dg 3 Q) := by
    unfold wt V at *; rw [show (4294967296 : Int) ^ 1 = 4294967296 by rfl]; omega
  rw [e]; exact this
theorem dg_add2 {Q P : Int} (h0 : 0 ≤ Q) (h1 : Q < big) (hP : 0 ≤ P) (h : dg 2 Q + P ≤ 4294967295) : dg 0 (Q + P * wt 2) = dg 0 Q ∧ dg 1 (Q + P * wt 2) = dg 1 Q ∧ dg 2 (Q + P * wt 2) = dg 2 Q + P ∧ dg 3 (Q + P * wt 2) = dg 3 Q := by
  have v := V_dg h0 h1
  have a0 := dg_bd 0 Q; have a1 := dg_bd 1 Q; have a2 := dg_bd 2 Q; have a3 := dg_bd 3 Q
  have := dg_V (a0 := dg 0 Q) (a1 := dg 1 Q) (a2 := dg 2 Q + P) (a3 := dg 3 Q) a0 a1 (by omega) a3
  have e : Q + P * wt 2 = V (dg 0 Q) (dg 1 Q) (dg 2 Q + P) (dg 3 Q) := by
    unfold wt V at *; rw [show (4294967296 : Int) ^ 2 = 18446744073709551616 by rfl]; omega
  rw [e]; exact this
theorem dg_add3 {Q P : Int} (h0 : 0 ≤ Q) (h1 : Q < big) (hP : 0 ≤ P) (h : dg 3 Q + P ≤ 4294967295) : dg 0 (Q + P * wt 3) = dg 0 Q ∧ dg 1 (Q + P * wt 3) = dg 1 Q ∧ dg 2 (Q + P * wt 3) = dg 2 Q ∧ dg 3 (Q + P * wt 3) = dg 3 Q + P := by
  have v := V_dg h0 h1
  have a0 := dg_bd 0 Q; have a1 := dg_bd 1 Q; have a2 := dg_bd 2 Q; have a3 := dg_bd 3 Q
  have := dg_V (a0 := dg 0 Q) (a1 := dg 1 Q) (a2 := dg 2 Q) (a3 := dg 3 Q + P) a0 a1 a2 (by omega)
  have e : Q + P * wt 3 = V (dg 0 Q) (dg 1 Q) (dg 2 Q) (dg 3 Q + P) := by
    unfold wt V at *; rw [show (4294967296 : Int) ^ 3 = 79228162514264337593543950336 by rfl]; omega
  rw [e]; exact this
end Go.Proofs.Ytilcgpaefkapaaa
