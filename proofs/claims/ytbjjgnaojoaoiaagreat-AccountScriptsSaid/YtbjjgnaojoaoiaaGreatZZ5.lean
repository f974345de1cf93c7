/- Laws. -/
import Derived.Lib.Hide
namespace Go.Proofs.YtbjjgnaojoaoiaaGreat
set_option linter.unusedVariables false
set_option linter.unusedSimpArgs false
set_option maxHeartbeats 1600000
set_option maxRecDepth 100000
theorem knuth_over {a1 a0 u v q r : Int} (h : u = q * a1 + r) (hbig : r * 4294967296 + v < q * a0) : (u * 4294967296 + v) / (a1 * 4294967296 + a0) < q ∨ a1 * 4294967296 + a0 ≤ 0 := by
 by_cases hY : a1 * 4294967296 + a0 ≤ 0
 · exact .inr hY
 · refine .inl ((Int.ediv_lt_iff_lt_mul (by omega)).2 ?_)
   have e : q * (a1 * 4294967296 + a0) = (q * a1) * 4294967296 + q * a0 := by rw [Int.mul_add, Int.mul_assoc]
   rw [e]
   have : u * 4294967296 = q * a1 * 4294967296 + r * 4294967296 := by rw [h, Int.add_mul]
   omega
theorem knuth_done {a1 a0 u v q r : Int} (h : u = q * a1 + r) (hle : q * a0 ≤ r * 4294967296 + v) (hY : 0 < a1 * 4294967296 + a0) : q ≤ (u * 4294967296 + v) / (a1 * 4294967296 + a0) := by
 refine (Int.le_ediv_iff_mul_le hY).2 ?_
 have e : q * (a1 * 4294967296 + a0) = (q * a1) * 4294967296 + q * a0 := by rw [Int.mul_add, Int.mul_assoc]
 rw [e]
 have : u * 4294967296 = q * a1 * 4294967296 + r * 4294967296 := by rw [h, Int.add_mul]
 omega
theorem knuth_guess {a1 a0 u : Int} (h1 : 2147483648 ≤ a1) (h2 : 0 ≤ a0) (h3 : a0 < 4294967296) (hu0 : 0 ≤ u) (hu : u < a1 * 4294967296 + a0) (v : Int) (hv0 : 0 ≤ v) (hv : v < 4294967296) :
  0 ≤ u / a1 ∧ u / a1 ≤ 4294967297 ∧ (u * 4294967296 + v) / (a1 * 4294967296 + a0) ≤ u / a1 ∧ u = u / a1 * a1 + (u - u / a1 * a1) ∧ 0 ≤ u - u / a1 * a1 ∧ u - u / a1 * a1 < a1 := by
 have e := Int.mul_ediv_add_emod u a1
 have m0 := Int.emod_nonneg u (show a1 ≠ 0 by omega)
 have m1 := Int.emod_lt_of_pos u (show 0 < a1 by omega)
 have ec : a1 * (u / a1) = u / a1 * a1 := Int.mul_comm _ _
 refine ⟨Int.ediv_nonneg hu0 (by omega), ?_, ?_, by omega, by omega, by omega⟩
 · refine Int.le_of_lt_add_one ((Int.ediv_lt_iff_lt_mul (by omega)).2 ?_)
   have : (4294967297 + 1 : Int) * a1 = a1 * 4294967296 + a1 + a1 := by omega
   omega
 · refine Int.le_of_lt_add_one ((Int.ediv_lt_iff_lt_mul (by omega)).2 ?_)
   have e2 : (u / a1 + 1) * (a1 * 4294967296 + a0) = (u / a1 * a1 + a1) * 4294967296 + (u / a1 + 1) * a0 := by
    rw [Int.mul_add, ← Int.mul_assoc, Int.add_mul (u / a1) 1 a1, Int.one_mul]
   have p : 0 ≤ (u / a1 + 1) * a0 := Int.mul_nonneg (by have := Int.ediv_nonneg hu0 (show 0 ≤ a1 by omega); omega) h2
   rw [e2]; omega
theorem knuth_small {Y u v : Int} (hY : 0 < Y) (hu : u < Y) (hv : v < 4294967296) : (u * 4294967296 + v) / Y < 4294967296 := by
 refine (Int.ediv_lt_iff_lt_mul hY).2 ?_
 have : 4294967296 * Y = Y * 4294967296 := Int.mul_comm _ _
 omega
theorem knuth_end {N y P Y u t1 t0 : Int} (hP : 0 < P) (hy : 0 < y) (hYe : Y = y * P) (hN : (u * 4294967296 + t1) * 4294967296 + t0 = N * P) :
  let q1 := (u * 4294967296 + t1) / Y
  let r1 := u * 4294967296 + t1 - q1 * Y
  let q0 := (r1 * 4294967296 + t0) / Y
  let r0 := r1 * 4294967296 + t0 - q0 * Y
  q1 * 4294967296 + q0 = N / y ∧ r0 / P = N % y := by
 intro q1 r1 q0 r0
 have hY : 0 < Y := by rw [hYe]; exact Int.mul_pos hy hP
 have h0 : 0 ≤ r0 ∧ r0 < Y := by
  have e : Y * q0 + (r1 * 4294967296 + t0) % Y = r1 * 4294967296 + t0 := Int.mul_ediv_add_emod (r1 * 4294967296 + t0) Y
  have m0 := Int.emod_nonneg (r1 * 4294967296 + t0) (show Y ≠ 0 by omega)
  have m1 := Int.emod_lt_of_pos (r1 * 4294967296 + t0) hY
  have ec : Y * q0 = q0 * Y := Int.mul_comm _ _
  show 0 ≤ r1 * 4294967296 + t0 - q0 * Y ∧ r1 * 4294967296 + t0 - q0 * Y < Y
  omega
 have hsum : N * P = (q1 * 4294967296 + q0) * Y + r0 := by
  have : (q1 * 4294967296 + q0) * Y = (q1 * Y) * 4294967296 + q0 * Y := by
   rw [Int.add_mul, Int.mul_assoc, Int.mul_comm 4294967296 Y, ← Int.mul_assoc]
  rw [← hN, this]
  show _ = q1 * Y * 4294967296 + q0 * Y + ((u * 4294967296 + t1 - q1 * Y) * 4294967296 + t0 - q0 * Y)
  omega
 have hr0 : r0 = (N - (q1 * 4294967296 + q0) * y) * P := by
  have e : (q1 * 4294967296 + q0) * Y = (q1 * 4294967296 + q0) * y * P := by rw [hYe, Int.mul_assoc]
  rw [Int.sub_mul]; omega
 have hdiv : r0 / P = N - (q1 * 4294967296 + q0) * y := by rw [hr0]; exact Int.mul_ediv_cancel _ (by omega)
 have hb : 0 ≤ N - (q1 * 4294967296 + q0) * y ∧ N - (q1 * 4294967296 + q0) * y < y := by
  rw [← hdiv]
  refine ⟨Int.ediv_nonneg h0.1 (by omega), (Int.ediv_lt_iff_lt_mul hP).2 ?_⟩
  rw [← hYe]; exact h0.2
 have hq : q1 * 4294967296 + q0 = N / y := by
  have a := (Int.le_ediv_iff_mul_le hy).2 (show (q1 * 4294967296 + q0) * y ≤ N by omega)
  have b := (Int.ediv_lt_iff_lt_mul (a := N) (b := q1 * 4294967296 + q0 + 1) hy).2 (by rw [Int.add_mul]; omega)
  omega
 refine ⟨hq, ?_⟩
 rw [hdiv, hq]
 have := Int.mul_ediv_add_emod N y
 have ec : y * (N / y) = N / y * y := Int.mul_comm _ _
 omega
theorem shl_split {hi lo y : Int} {s : Nat} (hs1 : 1 ≤ s) (hs2 : s ≤ 63) (h0 : 0 ≤ hi) (h1 : hi < y) (hl0 : 0 ≤ lo) (hl1 : lo < 18446744073709551616) :
  0 ≤ lo / 2 ^ (64 - s) ∧ lo / 2 ^ (64 - s) < 2 ^ s ∧ (hi * 2 ^ s + lo / 2 ^ (64 - s)) * 18446744073709551616 + (lo * 2 ^ s) % 18446744073709551616 = (hi * 18446744073709551616 + lo) * 2 ^ s ∧ hi * 2 ^ s + lo / 2 ^ (64 - s) < y * 2 ^ s := by
 have hP : (2 : Int) ^ s * 2 ^ (64 - s) = 18446744073709551616 := by rw [← Int.pow_add, show s + (64 - s) = 64 by omega]; rfl
 have p1 : (0 : Int) < 2 ^ s := Int.pow_pos (by omega)
 have p2 : (0 : Int) < 2 ^ (64 - s) := Int.pow_pos (by omega)
 generalize (2 : Int) ^ s = P at *
 generalize (2 : Int) ^ (64 - s) = R at *
 have hlo : lo / R < P := (Int.ediv_lt_iff_lt_mul p2).2 (by omega)
 have hlo0 : 0 ≤ lo / R := Int.ediv_nonneg hl0 (by omega)
 refine ⟨hlo0, hlo, ?_, ?_⟩
 · have e := Int.mul_ediv_add_emod lo R
   have e2 : lo * P = (lo / R) * 18446744073709551616 + lo % R * P := by
    rw [← hP]
    have : (R * (lo / R) + lo % R) * P = lo / R * (P * R) + lo % R * P := by
     rw [Int.add_mul, Int.mul_comm R, Int.mul_assoc, Int.mul_comm R P]
    rw [← this, e]
   have m0 := Int.emod_nonneg lo (show R ≠ 0 by omega)
   have m1 := Int.emod_lt_of_pos lo p2
   have b0 : 0 ≤ lo % R * P := Int.mul_nonneg m0 (by omega)
   have b1 : lo % R * P < 18446744073709551616 := by
    rw [← hP, Int.mul_comm P R]; exact Int.mul_lt_mul_of_pos_right m1 p1
   have e3 : (lo * P) % 18446744073709551616 = lo % R * P := by
    rw [e2, Int.add_comm, Int.add_mul_emod_self_right]; exact Int.emod_eq_of_lt b0 b1
   rw [e3, Int.add_mul, Int.add_mul, e2]
   have : hi * P * 18446744073709551616 = hi * 18446744073709551616 * P := by rw [Int.mul_assoc, Int.mul_comm P, Int.mul_assoc]
   omega
 · have : (hi + 1) * P ≤ y * P := Int.mul_le_mul_of_nonneg_right (by omega) (by omega)
   rw [Int.add_mul] at this; omega
end Go.Proofs.YtbjjgnaojoaoiaaGreat
