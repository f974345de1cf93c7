/- accrue.Simple, the reference's one. -/
import Derived.Test.YtpfcajekbkpabaaM1
import Derived.Test.YtpfcajekbkpabaaY
import Derived.Test.YtpfcajekbkpabaaZ1
namespace Go.Proofs.Ytpfcajekbkpabaa
open Go.RowKit Go
set_option linter.unusedVariables false
set_option linter.unusedSimpArgs false

def okP (a : Int) : Bool := decide (0 ≤ a ∧ a ≤ 4611686018427387904)
def okR (a : Int) : Bool := decide (0 ≤ a ∧ a ≤ 100000)
def okD (a : Int) : Bool := decide (0 ≤ a ∧ a ≤ 3652058)
theorem okP_yes {a : Int} (h : okP a = true) : 0 ≤ a ∧ a ≤ 4611686018427387904 := by simpa [okP] using h
theorem okP_no {a : Int} (h : ¬ okP a = true) : a < 0 ∨ 4611686018427387904 < a := by
  have : ¬ (0 ≤ a ∧ a ≤ 4611686018427387904) := by simpa [okP] using h
  omega
theorem okR_yes {a : Int} (h : okR a = true) : 0 ≤ a ∧ a ≤ 100000 := by simpa [okR] using h
theorem okR_no {a : Int} (h : ¬ okR a = true) : a < 0 ∨ 100000 < a := by
  have : ¬ (0 ≤ a ∧ a ≤ 100000) := by simpa [okR] using h
  omega
theorem okD_yes {a : Int} (h : okD a = true) : 0 ≤ a ∧ a ≤ 3652058 := by simpa [okD] using h
theorem okD_no {a : Int} (h : ¬ okD a = true) : a < 0 ∨ 3652058 < a := by
  have : ¬ (0 ≤ a ∧ a ≤ 3652058) := by simpa [okD] using h
  omega
theorem isP_any (a : Int) (w : World) : Calls Try.prog 22 #[.int .i64 a] w fun e w' => e = .returned (.bool (okP a)) ∧ w = w' := by
  by_cases h : okP a = true
  · have h1 := okP_yes h
    have H := Lib.hid h; clear h
    go_enter Try.func22, Try.ntmps22
    go_wp2
    go_ret
    exact ⟨ret_bool H.out.symm, rfl⟩
  · have h1 := okP_no h
    have H := Lib.hid h; clear h
    rcases h1 with h1 | h1
    all_goals
      go_enter Try.func22, Try.ntmps22
      go_wp2
      all_goals go_ret
      all_goals have e := Bool.eq_false_iff.2 H.out
      all_goals exact ⟨ret_bool (by first | (rw [e]; done) | (rw [e]; simp; omega)), rfl⟩

theorem isR_any (a : Int) (w : World) : Calls Try.prog 23 #[.int .i64 a] w fun e w' => e = .returned (.bool (okR a)) ∧ w = w' := by
  by_cases h : okR a = true
  · have h1 := okR_yes h
    have H := Lib.hid h; clear h
    go_enter Try.func23, Try.ntmps23
    go_wp2
    go_ret
    exact ⟨ret_bool H.out.symm, rfl⟩
  · have h1 := okR_no h
    have H := Lib.hid h; clear h
    rcases h1 with h1 | h1
    all_goals
      go_enter Try.func23, Try.ntmps23
      go_wp2
      all_goals go_ret
      all_goals have e := Bool.eq_false_iff.2 H.out
      all_goals exact ⟨ret_bool (by first | (rw [e]; done) | (rw [e]; simp; omega)), rfl⟩

theorem isD_any (a : Int) (w : World) : Calls Try.prog 24 #[.int .i64 a] w fun e w' => e = .returned (.bool (okD a)) ∧ w = w' := by
  by_cases h : okD a = true
  · have h1 := okD_yes h
    have H := Lib.hid h; clear h
    go_enter Try.func24, Try.ntmps24
    go_wp2
    go_ret
    exact ⟨ret_bool H.out.symm, rfl⟩
  · have h1 := okD_no h
    have H := Lib.hid h; clear h
    rcases h1 with h1 | h1
    all_goals
      go_enter Try.func24, Try.ntmps24
      go_wp2
      all_goals go_ret
      all_goals have e := Bool.eq_false_iff.2 H.out
      all_goals exact ⟨ret_bool (by first | (rw [e]; done) | (rw [e]; simp; omega)), rfl⟩

theorem isP_ref (a : Int) (w : World) : Calls Try.prog 26 #[.int .i64 a] w fun e w' => e = .returned (.bool (okP a)) ∧ w = w' := by
  by_cases h : okP a = true
  · have h1 := okP_yes h
    have H := Lib.hid h; clear h
    go_enter Try.func26, Try.ntmps26
    go_wp2
    go_ret
    exact ⟨ret_bool H.out.symm, rfl⟩
  · have h1 := okP_no h
    have H := Lib.hid h; clear h
    rcases h1 with h1 | h1
    all_goals
      go_enter Try.func26, Try.ntmps26
      go_wp2
      all_goals go_ret
      all_goals have e := Bool.eq_false_iff.2 H.out
      all_goals exact ⟨ret_bool (by first | (rw [e]; done) | (rw [e]; simp; omega)), rfl⟩

theorem isR_ref (a : Int) (w : World) : Calls Try.prog 27 #[.int .i64 a] w fun e w' => e = .returned (.bool (okR a)) ∧ w = w' := by
  by_cases h : okR a = true
  · have h1 := okR_yes h
    have H := Lib.hid h; clear h
    go_enter Try.func27, Try.ntmps27
    go_wp2
    go_ret
    exact ⟨ret_bool H.out.symm, rfl⟩
  · have h1 := okR_no h
    have H := Lib.hid h; clear h
    rcases h1 with h1 | h1
    all_goals
      go_enter Try.func27, Try.ntmps27
      go_wp2
      all_goals go_ret
      all_goals have e := Bool.eq_false_iff.2 H.out
      all_goals exact ⟨ret_bool (by first | (rw [e]; done) | (rw [e]; simp; omega)), rfl⟩

end Go.Proofs.Ytpfcajekbkpabaa
