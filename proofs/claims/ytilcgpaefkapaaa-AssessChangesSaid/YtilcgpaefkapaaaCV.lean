/- civil and the reference's: long, Last, year. -/
import Derived.Test.YtilcgpaefkapaaaProg
import Derived.Test.YtilcgpaefkapaaaCA
import Derived.Test.YtilcgpaefkapaaaA
import Derived.IntWalk
import Derived.Deep.LoopGhost
import Derived.Deep.CutBlock
import Derived.Deep.CutRange
import Derived.Outline
namespace Go.Proofs.Ytilcgpaefkapaaa
open Go.RowKit Go
set_option linter.unusedVariables false
set_option linter.unusedSimpArgs false

theorem leap_b {y : Nat} {b : Bool} (h : b = true ↔ (y % 4 = 0 ∧ (y % 100 ≠ 0 ∨ y % 400 = 0))) : b = leapY y := by
  rw [Bool.eq_iff_iff, h, leapY_iff]
theorem long_any (y : Nat) (w : World) (hy : y ≤ 40000) : Calls Try.prog 52 #[.int .i64 y] w fun e w' => e = .returned (.bool (leapY y)) ∧ w = w' := by
  go_enter Try.func52, Try.ntmps52
  go_wp2
  all_goals go_ret
  all_goals exact ⟨ret_bool (leap_b (by simp; try omega)), rfl⟩
theorem rlong_any (y : Nat) (w : World) (hy : y ≤ 40000) : Calls Try.prog 54 #[.int .i64 y] w fun e w' => e = .returned (.bool (leapY y)) ∧ w = w' := by
  go_enter Try.func54, Try.ntmps54
  go_wp2
  all_goals go_ret
  all_goals exact ⟨ret_bool (leap_b (by simp; try omega)), rfl⟩
theorem year_any (y : Nat) (w : World) (hy : y ≤ 40000) : Calls Try.prog 53 #[.int .i64 y] w fun e w' => e = .returned (.int .i64 (yl y : Nat)) ∧ w = w' := by
  by_cases h : leapY y = true
  · have H : Hid (yl y = 366) := by show _ = _; unfold yl; rw [if_pos h]
    go_enter Try.func53, Try.ntmps53
    go_wp2_with fail
    refine (rlong_any y _ hy).mono ?_; rintro e w' ⟨rfl, rfl⟩
    rw [h]; clear h
    go_wp2_with fail
    go_ret
    exact ⟨by rw [H.out]; rfl, rfl⟩
  · have H : Hid (yl y = 365) := by show _ = _; unfold yl; rw [if_neg h]
    go_enter Try.func53, Try.ntmps53
    go_wp2_with fail
    refine (rlong_any y _ hy).mono ?_; rintro e w' ⟨rfl, rfl⟩
    rw [Bool.eq_false_iff.2 h]; clear h
    go_wp2_with fail
    go_ret
    exact ⟨by rw [H.out]; rfl, rfl⟩

/-- A month's last day. -/
def lastS (y m : Nat) : Int × Int := if y ≤ 9999 then (((ml y m : Nat) : Int), 0) else (0, 1)
theorem tab_any (y m : Nat) (hm : 1 ≤ m ∧ m ≤ 12) (h2 : m ≠ 2) (w : World) : (Instr.index 79 (.agg #[.int .i64 31, .int .i64 28, .int .i64 31, .int .i64 30, .int .i64 31, .int .i64 30, .int .i64 31, .int .i64 31, .int .i64 30, .int .i64 31, .int .i64 30, .int .i64 31]) (.int .i64 ((m : Int) - 1))).run Try.prog w = .ok (.int .i64 (ml y m : Nat)) w := by
  have h : m = 1 ∨ m = 3 ∨ m = 4 ∨ m = 5 ∨ m = 6 ∨ m = 7 ∨ m = 8 ∨ m = 9 ∨ m = 10 ∨ m = 11 ∨ m = 12 := by omega
  have t1 : ∀ w, (Instr.index 79 (.agg #[.int .i64 31, .int .i64 28, .int .i64 31, .int .i64 30, .int .i64 31, .int .i64 30, .int .i64 31, .int .i64 31, .int .i64 30, .int .i64 31, .int .i64 30, .int .i64 31]) (.int .i64 0)).run Try.prog w = .ok (.int .i64 31) w := fun _ => by kernel_rfl
  have t3 : ∀ w, (Instr.index 79 (.agg #[.int .i64 31, .int .i64 28, .int .i64 31, .int .i64 30, .int .i64 31, .int .i64 30, .int .i64 31, .int .i64 31, .int .i64 30, .int .i64 31, .int .i64 30, .int .i64 31]) (.int .i64 2)).run Try.prog w = .ok (.int .i64 31) w := fun _ => by kernel_rfl
  have t4 : ∀ w, (Instr.index 79 (.agg #[.int .i64 31, .int .i64 28, .int .i64 31, .int .i64 30, .int .i64 31, .int .i64 30, .int .i64 31, .int .i64 31, .int .i64 30, .int .i64 31, .int .i64 30, .int .i64 31]) (.int .i64 3)).run Try.prog w = .ok (.int .i64 30) w := fun _ => by kernel_rfl
  have t5 : ∀ w, (Instr.index 79 (.agg #[.int .i64 31, .int .i64 28, .int .i64 31, .int .i64 30, .int .i64 31, .int .i64 30, .int .i64 31, .int .i64 31, .int .i64 30, .int .i64 31, .int .i64 30, .int .i64 31]) (.int .i64 4)).run Try.prog w = .ok (.int .i64 31) w := fun _ => by kernel_rfl
  have t6 : ∀ w, (Instr.index 79 (.agg #[.int .i64 31, .int .i64 28, .int .i64 31, .int .i64 30, .int .i64 31, .int .i64 30, .int .i64 31, .int .i64 31, .int .i64 30, .int .i64 31, .int .i64 30, .int .i64 31]) (.int .i64 5)).run Try.prog w = .ok (.int .i64 30) w := fun _ => by kernel_rfl
  have t7 : ∀ w, (Instr.index 79 (.agg #[.int .i64 31, .int .i64 28, .int .i64 31, .int .i64 30, .int .i64 31, .int .i64 30, .int .i64 31, .int .i64 31, .int .i64 30, .int .i64 31, .int .i64 30, .int .i64 31]) (.int .i64 6)).run Try.prog w = .ok (.int .i64 31) w := fun _ => by kernel_rfl
  have t8 : ∀ w, (Instr.index 79 (.agg #[.int .i64 31, .int .i64 28, .int .i64 31, .int .i64 30, .int .i64 31, .int .i64 30, .int .i64 31, .int .i64 31, .int .i64 30, .int .i64 31, .int .i64 30, .int .i64 31]) (.int .i64 7)).run Try.prog w = .ok (.int .i64 31) w := fun _ => by kernel_rfl
  have t9 : ∀ w, (Instr.index 79 (.agg #[.int .i64 31, .int .i64 28, .int .i64 31, .int .i64 30, .int .i64 31, .int .i64 30, .int .i64 31, .int .i64 31, .int .i64 30, .int .i64 31, .int .i64 30, .int .i64 31]) (.int .i64 8)).run Try.prog w = .ok (.int .i64 30) w := fun _ => by kernel_rfl
  have t10 : ∀ w, (Instr.index 79 (.agg #[.int .i64 31, .int .i64 28, .int .i64 31, .int .i64 30, .int .i64 31, .int .i64 30, .int .i64 31, .int .i64 31, .int .i64 30, .int .i64 31, .int .i64 30, .int .i64 31]) (.int .i64 9)).run Try.prog w = .ok (.int .i64 31) w := fun _ => by kernel_rfl
  have t11 : ∀ w, (Instr.index 79 (.agg #[.int .i64 31, .int .i64 28, .int .i64 31, .int .i64 30, .int .i64 31, .int .i64 30, .int .i64 31, .int .i64 31, .int .i64 30, .int .i64 31, .int .i64 30, .int .i64 31]) (.int .i64 10)).run Try.prog w = .ok (.int .i64 30) w := fun _ => by kernel_rfl
  have t12 : ∀ w, (Instr.index 79 (.agg #[.int .i64 31, .int .i64 28, .int .i64 31, .int .i64 30, .int .i64 31, .int .i64 30, .int .i64 31, .int .i64 31, .int .i64 30, .int .i64 31, .int .i64 30, .int .i64 31]) (.int .i64 11)).run Try.prog w = .ok (.int .i64 31) w := fun _ => by kernel_rfl
  rcases h with rfl | rfl | rfl | rfl | rfl | rfl | rfl | rfl | rfl | rfl | rfl
  · have e : ((ml y 1 : Nat) : Int) = 31 := by simp [ml]
    rw [e]; exact t1 w
  · have e : ((ml y 3 : Nat) : Int) = 31 := by simp [ml]
    rw [e]; exact t3 w
  · have e : ((ml y 4 : Nat) : Int) = 30 := by simp [ml]
    rw [e]; exact t4 w
  · have e : ((ml y 5 : Nat) : Int) = 31 := by simp [ml]
    rw [e]; exact t5 w
  · have e : ((ml y 6 : Nat) : Int) = 30 := by simp [ml]
    rw [e]; exact t6 w
  · have e : ((ml y 7 : Nat) : Int) = 31 := by simp [ml]
    rw [e]; exact t7 w
  · have e : ((ml y 8 : Nat) : Int) = 31 := by simp [ml]
    rw [e]; exact t8 w
  · have e : ((ml y 9 : Nat) : Int) = 30 := by simp [ml]
    rw [e]; exact t9 w
  · have e : ((ml y 10 : Nat) : Int) = 31 := by simp [ml]
    rw [e]; exact t10 w
  · have e : ((ml y 11 : Nat) : Int) = 30 := by simp [ml]
    rw [e]; exact t11 w
  · have e : ((ml y 12 : Nat) : Int) = 31 := by simp [ml]
    rw [e]; exact t12 w
set_option maxHeartbeats 1600000 in
theorem last_any (y m : Nat) (w : World) (hy : 1 ≤ y ∧ y ≤ 40000) (hm : 1 ≤ m ∧ m ≤ 12) : Calls Try.prog 41 #[.int .i64 y, .int .i64 m] w fun e w' => e = .returned (pr (lastS y m)) ∧ w = w' := by
  by_cases h99 : y ≤ 9999
  · have HL : Hid (lastS y m = (((ml y m : Nat) : Int), 0)) := if_pos h99
    by_cases h2 : m = 2
    · subst h2
      by_cases hl : leapY y = true
      · have H : Hid (ml y 2 = 29) := by show _ = _; simp [ml, hl]
        go_enter Try.func41, Try.ntmps41
        go_wp2_with fail
        refine (long_any y _ hy.2).mono ?_; rintro e w' ⟨rfl, rfl⟩
        rw [hl]; clear hl
        go_wp2_with fail
        go_ret2
        exact ⟨ret_pr (by rw [HL.out, H.out]; rfl), rfl⟩
      · have H : Hid (ml y 2 = 28) := by show _ = _; simp [ml, hl]
        have i0 : ∀ w, (Instr.index 79 (.agg #[.int .i64 31, .int .i64 28, .int .i64 31, .int .i64 30, .int .i64 31, .int .i64 30, .int .i64 31, .int .i64 31, .int .i64 30, .int .i64 31, .int .i64 30, .int .i64 31]) (.int .i64 1)).run Try.prog w = .ok (.int .i64 28) w := fun _ => by kernel_rfl
        go_enter Try.func41, Try.ntmps41
        go_wp2_with fail
        refine (long_any y _ hy.2).mono ?_; rintro e w' ⟨rfl, rfl⟩
        rw [Bool.eq_false_iff.2 hl]; clear hl
        go_wp2_with fail
        go_ret2
        exact ⟨ret_pr (by rw [HL.out, H.out]; rfl), rfl⟩
    · have i0 := tab_any y m hm h2
      have hsub : IntKind.i64.wrap ((m : Int) - 1) = (m : Int) - 1 := IntWalk.i64_in _ (by omega)
      have hne : ((m : Int) == 2) = false := by simp; omega
      have hne' : ¬ (m : Int) = 2 := by omega
      go_enter Try.func41, Try.ntmps41
      go_wp2_with fail
      go_ret2
      exact ⟨ret_pr (by rw [HL.out]), rfl⟩
  · have HL : Hid (lastS y m = (0, 1)) := if_neg h99
    go_enter Try.func41, Try.ntmps41
    go_wp2_with fail
    go_ret2
    exact ⟨ret_pr HL.out, rfl⟩
end Go.Proofs.Ytilcgpaefkapaaa
