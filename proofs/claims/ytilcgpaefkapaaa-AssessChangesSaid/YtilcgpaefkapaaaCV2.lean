/- civil: Days, Date. -/
import Derived.Test.YtilcgpaefkapaaaCV
namespace Go.Proofs.Ytilcgpaefkapaaa
open Go.RowKit Go
set_option linter.unusedVariables false
set_option linter.unusedSimpArgs false

theorem dby_up (y : Nat) (h : y ≤ 9999) (h1 : 1 ≤ y) : dby y ≤ 3651694 := by unfold dby; omega
theorem cumM_up (y : Nat) : ∀ m, cumM y m ≤ 31 * m
  | 0 => by simp [cumM]
  | m + 1 => by
    have := cumM_up y m; have := ml_bd y m
    simp only [cumM]; split <;> omega
theorem last_ok {y m : Nat} (h : y ≤ 9999) : lastS y m = (((ml y m : Nat) : Int), 0) := if_pos h

set_option maxHeartbeats 1600000 in
theorem days_any (y m d : Nat) (w : World) (hy : 1 ≤ y ∧ y ≤ 9999) (hm : 1 ≤ m ∧ m ≤ 12) (hd : 1 ≤ d ∧ d ≤ ml y m) :
    Calls Try.prog 42 #[.int .i64 y, .int .i64 m, .int .i64 d] w fun e w' => e = .returned (pr (((dby y + cumM y m + (d - 1) : Nat) : Int), 0)) ∧ w = w' := by
  obtain ⟨Y, hY⟩ : ∃ Y, Y = y - 1 := ⟨_, rfl⟩
  obtain ⟨N, hN⟩ : ∃ N, N = m - 1 := ⟨_, rfl⟩
  have hmb := ml_bd y m
  have hsub : IntKind.i64.wrap ((y : Int) - 1) = (Y : Int) := by rw [IntWalk.i64_in _ (by omega)]; omega
  have hsub2 : IntKind.i64.wrap ((m : Int) - 1) = (N : Int) := by rw [IntWalk.i64_in _ (by omega)]; omega
  have HD : Hid ((Y : Int) * 365 + (Y : Int) / 4 - (Y : Int) / 100 + (Y : Int) / 400 + d - 1 = ((dby y + (d - 1) : Nat) : Int)) := by show _ = _; unfold dby; omega
  have hup := dby_up y hy.2 hy.1
  have HN := Lib.hid hN; have HY := Lib.hid hY
  have hYb : Y ≤ 9998 := by omega
  have hNb : N ≤ 11 := by omega
  obtain ⟨L, hL⟩ : ∃ L, ml y m = L := ⟨_, rfl⟩
  have HL := Lib.hid hL
  rw [hL] at hd hmb
  clear hN hY hL
  have g1 : decide ((d : Int) < 1) = false := decide_eq_false (by omega)
  have g2 : decide (L < d) = false := decide_eq_false (by omega)
  go_enter Try.func42, Try.ntmps42
  go_wp2_with fail
  refine (last_any y m _ ⟨hy.1, by omega⟩ hm).mono ?_; rintro e w' ⟨rfl, rfl⟩
  rw [last_ok hy.2, HL.out]
  go_wp2_with fail
  go_loopg [11, 50] N (fun g v11 v50 wr => ∃ k : Nat, g = N - k ∧ k ≤ N ∧ v50 = .int .i64 k ∧ v11 = .int .i64 ((dby y + cumM y (k + 1) + (d - 1) : Nat) : Int) ∧ wr = w)
  case atStart => exact ⟨0, rfl, by omega, rfl, by rw [HD.out, Nat.zero_add, cumM_one]; rfl, rfl⟩
  case round =>
    obtain ⟨k, hgk, hk, rfl, rfl, rfl⟩ := hrel
    have HG := Lib.hid hgk; clear hgk hsub hsub2
    by_cases hlt : k < N
    · have hk1 : k + 1 < m := by have := HN.out; omega
      have H1 := Lib.hid (last_any y (k + 1) wr ⟨hy.1, by omega⟩ (by omega))
      have hc := cumM_up y (k + 1); have hb := ml_bd y (k + 1)
      have HC := Lib.hid (cumM_succ y (m := k + 1) (by omega))
      go_wp2_with fail
      refine H1.out.mono ?_; rintro e w' ⟨rfl, rfl⟩
      rw [last_ok hy.2]
      generalize ml y (k + 1) = l at *
      generalize cumM y (k + 1) = c at *
      go_wp2_with fail
      go_roundg (N - (k + 1))
      case measure => have := HG.out; omega
      case rel => exact ⟨k + 1, rfl, by omega, by go_num, by rw [HC.out]; go_num, rfl⟩
    · have hkN : k + 1 = m := by have := HN.out; omega
      rw [hkN]
      go_wp2_with fail
      go_ret2
      exact ⟨rfl, rfl⟩
end Go.Proofs.Ytilcgpaefkapaaa
