/- civil and the reference's: long, Last, year. -/
import Derived.Test.YtbjjgnaojoaoiaaGreatProg
import Derived.Test.YtbjjgnaojoaoiaaGreatK5
import Derived.Test.YtbjjgnaojoaoiaaGreatK2
import Derived.IntWalk
import Derived.Deep.LoopGhost
import Derived.Deep.CutBlock
import Derived.Deep.CutRange
import Derived.Outline
namespace Go.Proofs.YtbjjgnaojoaoiaaGreat
open Go.RowKit Go
set_option linter.unusedVariables false
set_option linter.unusedSimpArgs false

theorem leap_b {y : Nat} {b : Bool} (h : b = true ↔ (y % 4 = 0 ∧ (y % 100 ≠ 0 ∨ y % 400 = 0))) : b = leapY y := by
  rw [Bool.eq_iff_iff, h, leapY_iff]
theorem long_any (y : Nat) (w : World) (hy : y ≤ 40000) : Calls Tryz.prog 207 #[.int .i64 y] w fun e w' => e = .returned (.bool (leapY y)) ∧ w = w' := by
  go_enter Tryz.func207, Tryz.ntmps207
  go_wp2
  all_goals go_ret
  all_goals exact ⟨ret_bool (leap_b (by simp; try omega)), rfl⟩
theorem rlong_any (y : Nat) (w : World) (hy : y ≤ 40000) : Calls Tryz.prog 210 #[.int .i64 y] w fun e w' => e = .returned (.bool (leapY y)) ∧ w = w' := by
  go_enter Tryz.func210, Tryz.ntmps210
  go_wp2
  all_goals go_ret
  all_goals exact ⟨ret_bool (leap_b (by simp; try omega)), rfl⟩
theorem year_any (y : Nat) (w : World) (hy : y ≤ 40000) : Calls Tryz.prog 209 #[.int .i64 y] w fun e w' => e = .returned (.int .i64 (yl y : Nat)) ∧ w = w' := by
  by_cases h : leapY y = true
  · have H : Hid (yl y = 366) := by show _ = _; unfold yl; rw [if_pos h]
    go_enter Tryz.func209, Tryz.ntmps209
    go_wp2_with fail
    refine (rlong_any y _ hy).mono ?_; rintro e w' ⟨rfl, rfl⟩
    rw [h]; clear h
    go_wp2_with fail
    go_ret
    exact ⟨by rw [H.out]; rfl, rfl⟩
  · have H : Hid (yl y = 365) := by show _ = _; unfold yl; rw [if_neg h]
    go_enter Tryz.func209, Tryz.ntmps209
    go_wp2_with fail
    refine (rlong_any y _ hy).mono ?_; rintro e w' ⟨rfl, rfl⟩
    rw [Bool.eq_false_iff.2 h]; clear h
    go_wp2_with fail
    go_ret
    exact ⟨by rw [H.out]; rfl, rfl⟩

/-- A month's last day. -/
def lastS (y m : Nat) : Int × Int := if y ≤ 9999 then (((ml y m : Nat) : Int), 0) else (0, 1)
theorem tab_any (y m : Nat) (hm : 1 ≤ m ∧ m ≤ 12) (h2 : m ≠ 2) (w : World) : (Instr.index 233 (.agg #[.int .i64 31, .int .i64 28, .int .i64 31, .int .i64 30, .int .i64 31, .int .i64 30, .int .i64 31, .int .i64 31, .int .i64 30, .int .i64 31, .int .i64 30, .int .i64 31]) (.int .i64 ((m : Int) - 1))).run Tryz.prog w = .ok (.int .i64 (ml y m : Nat)) w := by
  have h : m = 1 ∨ m = 3 ∨ m = 4 ∨ m = 5 ∨ m = 6 ∨ m = 7 ∨ m = 8 ∨ m = 9 ∨ m = 10 ∨ m = 11 ∨ m = 12 := by omega
  have t1 : ∀ w, (Instr.index 233 (.agg #[.int .i64 31, .int .i64 28, .int .i64 31, .int .i64 30, .int .i64 31, .int .i64 30, .int .i64 31, .int .i64 31, .int .i64 30, .int .i64 31, .int .i64 30, .int .i64 31]) (.int .i64 0)).run Tryz.prog w = .ok (.int .i64 31) w := fun _ => by kernel_rfl
  have t3 : ∀ w, (Instr.index 233 (.agg #[.int .i64 31, .int .i64 28, .int .i64 31, .int .i64 30, .int .i64 31, .int .i64 30, .int .i64 31, .int .i64 31, .int .i64 30, .int .i64 31, .int .i64 30, .int .i64 31]) (.int .i64 2)).run Tryz.prog w = .ok (.int .i64 31) w := fun _ => by kernel_rfl
  have t4 : ∀ w, (Instr.index 233 (.agg #[.int .i64 31, .int .i64 28, .int .i64 31, .int .i64 30, .int .i64 31, .int .i64 30, .int .i64 31, .int .i64 31, .int .i64 30, .int .i64 31, .int .i64 30, .int .i64 31]) (.int .i64 3)).run Tryz.prog w = .ok (.int .i64 30) w := fun _ => by kernel_rfl
  have t5 : ∀ w, (Instr.index 233 (.agg #[.int .i64 31, .int .i64 28, .int .i64 31, .int .i64 30, .int .i64 31, .int .i64 30, .int .i64 31, .int .i64 31, .int .i64 30, .int .i64 31, .int .i64 30, .int .i64 31]) (.int .i64 4)).run Tryz.prog w = .ok (.int .i64 31) w := fun _ => by kernel_rfl
  have t6 : ∀ w, (Instr.index 233 (.agg #[.int .i64 31, .int .i64 28, .int .i64 31, .int .i64 30, .int .i64 31, .int .i64 30, .int .i64 31, .int .i64 31, .int .i64 30, .int .i64 31, .int .i64 30, .int .i64 31]) (.int .i64 5)).run Tryz.prog w = .ok (.int .i64 30) w := fun _ => by kernel_rfl
  have t7 : ∀ w, (Instr.index 233 (.agg #[.int .i64 31, .int .i64 28, .int .i64 31, .int .i64 30, .int .i64 31, .int .i64 30, .int .i64 31, .int .i64 31, .int .i64 30, .int .i64 31, .int .i64 30, .int .i64 31]) (.int .i64 6)).run Tryz.prog w = .ok (.int .i64 31) w := fun _ => by kernel_rfl
  have t8 : ∀ w, (Instr.index 233 (.agg #[.int .i64 31, .int .i64 28, .int .i64 31, .int .i64 30, .int .i64 31, .int .i64 30, .int .i64 31, .int .i64 31, .int .i64 30, .int .i64 31, .int .i64 30, .int .i64 31]) (.int .i64 7)).run Tryz.prog w = .ok (.int .i64 31) w := fun _ => by kernel_rfl
  have t9 : ∀ w, (Instr.index 233 (.agg #[.int .i64 31, .int .i64 28, .int .i64 31, .int .i64 30, .int .i64 31, .int .i64 30, .int .i64 31, .int .i64 31, .int .i64 30, .int .i64 31, .int .i64 30, .int .i64 31]) (.int .i64 8)).run Tryz.prog w = .ok (.int .i64 30) w := fun _ => by kernel_rfl
  have t10 : ∀ w, (Instr.index 233 (.agg #[.int .i64 31, .int .i64 28, .int .i64 31, .int .i64 30, .int .i64 31, .int .i64 30, .int .i64 31, .int .i64 31, .int .i64 30, .int .i64 31, .int .i64 30, .int .i64 31]) (.int .i64 9)).run Tryz.prog w = .ok (.int .i64 31) w := fun _ => by kernel_rfl
  have t11 : ∀ w, (Instr.index 233 (.agg #[.int .i64 31, .int .i64 28, .int .i64 31, .int .i64 30, .int .i64 31, .int .i64 30, .int .i64 31, .int .i64 31, .int .i64 30, .int .i64 31, .int .i64 30, .int .i64 31]) (.int .i64 10)).run Tryz.prog w = .ok (.int .i64 30) w := fun _ => by kernel_rfl
  have t12 : ∀ w, (Instr.index 233 (.agg #[.int .i64 31, .int .i64 28, .int .i64 31, .int .i64 30, .int .i64 31, .int .i64 30, .int .i64 31, .int .i64 31, .int .i64 30, .int .i64 31, .int .i64 30, .int .i64 31]) (.int .i64 11)).run Tryz.prog w = .ok (.int .i64 31) w := fun _ => by kernel_rfl
  rcases h with rfl | rfl | rfl | rfl | rfl | rfl | rfl | rfl | rfl | rfl | rfl
  · have e : ((ml y 1 : Nat) : Int) = 31 := by simp [ml]
    rw [e]; exact t1 w
  · have e : ((ml y 3 : Nat) : Int) = 31 := by simp [ml]
    rw [e]; exact t3 w
  · have e : ((ml y 4 : Nat) : Int) = 30 := by simp [ml]
    rw [e]; exact t4 w
  · have e : ((ml y 5 : Nat) : Int) = 31 := by simp [ml]
    rw [e]; exact t5 w
  · have e : ((ml y 6 : Nat) : Int) = 30 := by simp [ml]
    rw [e]; exact t6 w
  · have e : ((ml y 7 : Nat) : Int) = 31 := by simp [ml]
    rw [e]; exact t7 w
  · have e : ((ml y 8 : Nat) : Int) = 31 := by simp [ml]
    rw [e]; exact t8 w
  · have e : ((ml y 9 : Nat) : Int) = 30 := by simp [ml]
    rw [e]; exact t9 w
  · have e : ((ml y 10 : Nat) : Int) = 31 := by simp [ml]
    rw [e]; exact t10 w
  · have e : ((ml y 11 : Nat) : Int) = 30 := by simp [ml]
    rw [e]; exact t11 w
  · have e : ((ml y 12 : Nat) : Int) = 31 := by simp [ml]
    rw [e]; exact t12 w
set_option maxHeartbeats 1600000 in
theorem last_any (y m : Nat) (w : World) (hy : 1 ≤ y ∧ y ≤ 40000) (hm : 1 ≤ m ∧ m ≤ 12) : Calls Tryz.prog 195 #[.int .i64 y, .int .i64 m] w fun e w' => e = .returned (pr (lastS y m)) ∧ w = w' := by
  by_cases h99 : y ≤ 9999
  · have HL : Hid (lastS y m = (((ml y m : Nat) : Int), 0)) := if_pos h99
    by_cases h2 : m = 2
    · subst h2
      by_cases hl : leapY y = true
      · have H : Hid (ml y 2 = 29) := by show _ = _; simp [ml, hl]
        go_enter Tryz.func195, Tryz.ntmps195
        go_wp2_with fail
        refine (long_any y _ hy.2).mono ?_; rintro e w' ⟨rfl, rfl⟩
        rw [hl]; clear hl
        go_wp2_with fail
        go_ret2
        exact ⟨ret_pr (by rw [HL.out, H.out]; rfl), rfl⟩
      · have H : Hid (ml y 2 = 28) := by show _ = _; simp [ml, hl]
        have i0 : ∀ w, (Instr.index 233 (.agg #[.int .i64 31, .int .i64 28, .int .i64 31, .int .i64 30, .int .i64 31, .int .i64 30, .int .i64 31, .int .i64 31, .int .i64 30, .int .i64 31, .int .i64 30, .int .i64 31]) (.int .i64 1)).run Tryz.prog w = .ok (.int .i64 28) w := fun _ => by kernel_rfl
        go_enter Tryz.func195, Tryz.ntmps195
        go_wp2_with fail
        refine (long_any y _ hy.2).mono ?_; rintro e w' ⟨rfl, rfl⟩
        rw [Bool.eq_false_iff.2 hl]; clear hl
        go_wp2_with fail
        go_ret2
        exact ⟨ret_pr (by rw [HL.out, H.out]; rfl), rfl⟩
    · have i0 := tab_any y m hm h2
      have hsub : IntKind.i64.wrap ((m : Int) - 1) = (m : Int) - 1 := IntWalk.i64_in _ (by omega)
      have hne : ((m : Int) == 2) = false := by simp; omega
      have hne' : ¬ (m : Int) = 2 := by omega
      go_enter Tryz.func195, Tryz.ntmps195
      go_wp2_with fail
      go_ret2
      exact ⟨ret_pr (by rw [HL.out]), rfl⟩
  · have HL : Hid (lastS y m = (0, 1)) := if_neg h99
    go_enter Tryz.func195, Tryz.ntmps195
    go_wp2_with fail
    go_ret2
    exact ⟨ret_pr HL.out, rfl⟩
end Go.Proofs.YtbjjgnaojoaoiaaGreat
/- civil: Days, Date. -/
namespace Go.Proofs.YtbjjgnaojoaoiaaGreat
open Go.RowKit Go
set_option linter.unusedVariables false
set_option linter.unusedSimpArgs false

theorem dby_up (y : Nat) (h : y ≤ 9999) (h1 : 1 ≤ y) : dby y ≤ 3651694 := by unfold dby; omega
theorem cumM_up (y : Nat) : ∀ m, cumM y m ≤ 31 * m
  | 0 => by simp [cumM]
  | m + 1 => by
    have := cumM_up y m; have := ml_bd y m
    simp only [cumM]; split <;> omega
theorem last_ok {y m : Nat} (h : y ≤ 9999) : lastS y m = (((ml y m : Nat) : Int), 0) := if_pos h

set_option maxHeartbeats 1600000 in
theorem days_any (y m d : Nat) (w : World) (hy : 1 ≤ y ∧ y ≤ 9999) (hm : 1 ≤ m ∧ m ≤ 12) (hd : 1 ≤ d ∧ d ≤ ml y m) :
    Calls Tryz.prog 196 #[.int .i64 y, .int .i64 m, .int .i64 d] w fun e w' => e = .returned (pr (((dby y + cumM y m + (d - 1) : Nat) : Int), 0)) ∧ w = w' := by
  obtain ⟨Y, hY⟩ : ∃ Y, Y = y - 1 := ⟨_, rfl⟩
  obtain ⟨N, hN⟩ : ∃ N, N = m - 1 := ⟨_, rfl⟩
  have hmb := ml_bd y m
  have hsub : IntKind.i64.wrap ((y : Int) - 1) = (Y : Int) := by rw [IntWalk.i64_in _ (by omega)]; omega
  have hsub2 : IntKind.i64.wrap ((m : Int) - 1) = (N : Int) := by rw [IntWalk.i64_in _ (by omega)]; omega
  have HD : Hid ((Y : Int) * 365 + (Y : Int) / 4 - (Y : Int) / 100 + (Y : Int) / 400 + d - 1 = ((dby y + (d - 1) : Nat) : Int)) := by show _ = _; unfold dby; omega
  have hup := dby_up y hy.2 hy.1
  have HN := Lib.hid hN; have HY := Lib.hid hY
  have hYb : Y ≤ 9998 := by omega
  have hNb : N ≤ 11 := by omega
  obtain ⟨L, hL⟩ : ∃ L, ml y m = L := ⟨_, rfl⟩
  have HL := Lib.hid hL
  rw [hL] at hd hmb
  clear hN hY hL
  have g1 : decide ((d : Int) < 1) = false := decide_eq_false (by omega)
  have g2 : decide (L < d) = false := decide_eq_false (by omega)
  go_enter Tryz.func196, Tryz.ntmps196
  go_wp2_with fail
  refine (last_any y m _ ⟨hy.1, by omega⟩ hm).mono ?_; rintro e w' ⟨rfl, rfl⟩
  rw [last_ok hy.2, HL.out]
  go_wp2_with fail
  go_loopg [11, 50] N (fun g v11 v50 wr => ∃ k : Nat, g = N - k ∧ k ≤ N ∧ v50 = .int .i64 k ∧ v11 = .int .i64 ((dby y + cumM y (k + 1) + (d - 1) : Nat) : Int) ∧ wr = w)
  case atStart => exact ⟨0, rfl, by omega, rfl, by rw [HD.out, Nat.zero_add, cumM_one]; rfl, rfl⟩
  case round =>
    obtain ⟨k, hgk, hk, rfl, rfl, rfl⟩ := hrel
    have HG := Lib.hid hgk; clear hgk hsub hsub2
    by_cases hlt : k < N
    · have hk1 : k + 1 < m := by have := HN.out; omega
      have H1 := Lib.hid (last_any y (k + 1) wr ⟨hy.1, by omega⟩ (by omega))
      have hc := cumM_up y (k + 1); have hb := ml_bd y (k + 1)
      have HC := Lib.hid (cumM_succ y (m := k + 1) (by omega))
      go_wp2_with fail
      refine H1.out.mono ?_; rintro e w' ⟨rfl, rfl⟩
      rw [last_ok hy.2]
      generalize ml y (k + 1) = l at *
      generalize cumM y (k + 1) = c at *
      go_wp2_with fail
      go_roundg (N - (k + 1))
      case measure => have := HG.out; omega
      case rel => exact ⟨k + 1, rfl, by omega, by go_num, by rw [HC.out]; go_num, rfl⟩
    · have hkN : k + 1 = m := by have := HN.out; omega
      rw [hkN]
      go_wp2_with fail
      go_ret2
      exact ⟨rfl, rfl⟩
end Go.Proofs.YtbjjgnaojoaoiaaGreat
