/- civil.Months. -/
import Derived.Test.YtbjjgnaojoaoiaaGreatK7
namespace Go.Proofs.YtbjjgnaojoaoiaaGreat
open Go.RowKit Go
set_option linter.unusedVariables false
set_option linter.unusedSimpArgs false

/-- The day so many months later. -/
def monthsV (o : Option Nat) : Int × Int := match o with
  | some x => ((x : Int), 0)
  | none => (0, 2)
theorem addM_some {i d n : Nat} (h : (i + n) / 12 ≤ 9999) : addM i d n = some (ms (i + n) + (min d (mlen (i + n)) - 1)) := if_pos h
theorem addM_none {i d n : Nat} (h : ¬ (i + n) / 12 ≤ 9999) : addM i d n = none := if_neg h
set_option maxHeartbeats 800000 in
theorem months_any (N k : Nat) (w : World) (hN : N ≤ 3652058) (hk : k ≤ 120000) :
    Calls Tryz.prog 175 #[.int .i64 N, .int .i64 k] w fun e w' => e = .returned (pr (monthsV (addD N k))) ∧ Below w.heap.size w w' := by
  go_enter Tryz.func175, Tryz.ntmps175
  go_wp2_with fail
  refine (date_any N w hN).mono ?_; rintro e w1 ⟨⟨y, m, d, hd, hy, rfl⟩, hw1⟩
  have HW1 := Lib.hid hw1; clear hw1
  have hmi := mi_eq hd
  have HA : Hid (addD N k = addM (12 * y + (m - 1)) d k) := by show _ = _; unfold addD; rw [hmi]
  have y1 := hd.1; have hm1 := hd.2.1.1; have hm2 := hd.2.1.2; have hd1 := hd.2.2.1.1; have hd2 := hd.2.2.1.2
  obtain ⟨I, hI⟩ : ∃ I, I = 12 * y + (m - 1) + k := ⟨_, rfl⟩
  have hb := ml_bd y m
  obtain ⟨J, hJ⟩ : ∃ J, J = 12 * y + (m - 1) := ⟨_, rfl⟩
  have hsub : IntKind.i64.wrap ((y : Int) * 12 + m - 1) = (J : Int) := by rw [IntWalk.i64_in _ (by omega)]; omega
  have hadd : (J : Int) + (k : Int) = (I : Int) := by omega
  have hJb : J ≤ 130000 := by omega
  have hIb : I ≤ 300000 := by omega
  have hI12 : 12 ≤ I := by omega
  have k0 : decide ((k : Int) < -120000) = false := decide_eq_false (by omega)
  have k1 : decide (120000 < (k : Int)) = false := decide_eq_false (by omega)
  have HI := Lib.hid hI
  have e1 : ((I / 12 : Nat) : Int) = (I : Int) / 12 := by omega
  have e2 : ((I % 12 + 1 : Nat) : Int) = (I : Int) % 12 + 1 := by omega
  have hl := last_any (I / 12) (I % 12 + 1) w1 (by omega) (by omega)
  rw [e1, e2] at hl
  have HL := Lib.hid hl
  have HE1 := Lib.hid e1; have HE2 := Lib.hid e2
  clear hl e1 e2
  clear hI hmi hd hJ
  go_wp2_with fail
  refine HL.out.mono ?_; rintro e w' ⟨rfl, rfl⟩
  by_cases h99 : I / 12 ≤ 9999
  · rw [last_ok h99]
    have hb2 := ml_bd (I / 12) (I % 12 + 1)
    have HML : Hid (mlen I = ml (I / 12) (I % 12 + 1)) := rfl
    have HMS : Hid (Go.Proofs.YtbjjgnaojoaoiaaGreat.ms I = dby (I / 12) + cumM (I / 12) (I % 12 + 1)) := rfl
    have HAS : Hid (addM (12 * y + (m - 1)) d k = some (Go.Proofs.YtbjjgnaojoaoiaaGreat.ms I + (min d (mlen I) - 1))) := by show _ = _; rw [addM_some (by rw [← HI.out]; exact h99), ← HI.out]
    have hds := days_any (I / 12) (I % 12 + 1) (min d (ml (I / 12) (I % 12 + 1))) w1 (by omega) (by omega) (by omega)
    generalize ml (I / 12) (I % 12 + 1) = L at *
    rw [HE1.out, HE2.out] at hds
    have HR : Hid (monthsV (addD N k) = (((dby (I / 12) + cumM (I / 12) (I % 12 + 1) + (min d L - 1) : Nat) : Int), 0)) := by show _ = _; rw [HA.out, HAS.out, HMS.out, HML.out]; rfl
    by_cases hdl : d ≤ L
    · rw [Nat.min_eq_left hdl] at hds HR
      have HDS := Lib.hid hds; clear hds
      go_wp2_with fail
      refine HDS.out.mono ?_; rintro e w' ⟨rfl, rfl⟩
      go_wp2_with fail
      go_ret2
      exact ⟨ret_pr (by rw [HR.out]; simp), HW1.out⟩
    · rw [Nat.min_eq_right (by omega)] at hds HR
      have HDS := Lib.hid hds; clear hds
      have hdl' : ¬ (d : Int) ≤ (L : Int) := by omega
      go_wp2_with fail
      refine HDS.out.mono ?_; rintro e w' ⟨rfl, rfl⟩
      go_wp2_with fail
      go_ret2
      exact ⟨ret_pr (by rw [HR.out]; simp), HW1.out⟩
  · have e : lastS (I / 12) (I % 12 + 1) = (0, 1) := if_neg h99
    have HAS : Hid (addM (12 * y + (m - 1)) d k = none) := by show _ = _; rw [addM_none (by rw [← HI.out]; exact h99)]
    rw [e]
    go_wp2_with fail
    go_ret2
    exact ⟨by rw [HA.out, HAS.out]; rfl, HW1.out⟩
end Go.Proofs.YtbjjgnaojoaoiaaGreat
