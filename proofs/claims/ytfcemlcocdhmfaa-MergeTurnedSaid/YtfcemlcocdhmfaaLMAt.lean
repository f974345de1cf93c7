/- The walk of MergeAt. -/
import Derived.Test.YtfcemlcocdhmfaaAT4
import Derived.Test.YtfcemlcocdhmfaaML
import Derived.Test.YtfcemlcocdhmfaaHW
namespace Go.Proofs.Ytfcemlcocdhmfaa
open Go.RowKit Go
set_option linter.unusedVariables false
set_option linter.unusedSimpArgs false

theorem FewR.lens {qs : List El} (h : FewR qs) : ∀ q ∈ qs, LenR q := fun q hq => ⟨Nat.le_trans (h.el q hq).1 (by omega), Nat.le_trans (h.el q hq).2 (by omega)⟩
theorem pairs_len {ps : List Pr} {seq : Int} {qs : List El} (h : ps.map Pr.p = AtS seq (qs.map El.r)) : ps.length ≤ qs.length := by
  have h1 := congrArg List.length h
  rw [List.length_map] at h1
  rw [h1, AtS]
  split
  · have := atS_len seq (qs.map El.r) none; simpa using this
  · simp
set_option maxHeartbeats 1600000 in
theorem mergeAt_walk (A : Option Addr) (c : Nat) (seq : Int) (qs : List El) (w : World) (h : RowB w (.slice A qs.length c) qs) :
    Calls Try.prog 5 #[.slice A qs.length c, .int .i64 seq] w fun e w' => e = .returned (.bool true) ∧ Below w.heap.size w w' := by
  have H := Lib.hid h; clear h
  go_enter Try.func5, Try.ntmps5
  go_wp2_with fail
  refine (awake_any w).mono ?_; rintro e w1 ⟨rfl, hw1⟩
  have HB1 := Lib.hid hw1; have H1 := Lib.hid (H.out.up hw1)
  clear hw1
  go_wp2_with fail
  refine (few_any _ qs w1 H1.out).mono ?_; rintro e w2 ⟨m, rfl, hm, rfl⟩
  cases m with
  | false =>
    go_wp2_with fail
    go_ret
    exact ⟨by first | rfl | simp, HB1.out⟩
  | true =>
    have HF := Lib.hid (hm rfl); clear hm
    have hl : qs.length ≤ 1000000000 := Nat.le_trans HF.out.len (by omega)
    have HL := Lib.hid hl; clear hl
    go_wp2_with fail
    refine (at_any _ seq qs w2 H1.out HL.out HF.out.lens).mono ?_; rintro e w3 ⟨⟨v3, ps, rfl, hr3, hp3⟩, hw3⟩
    have HR3 := Lib.hid hr3; have HP3 := Lib.hid hp3; have HB3 := Lib.hid (HB1.out.trans (hw3.mono HB1.out.size)); have H3 := Lib.hid (H1.out.up hw3)
    obtain ⟨A3, c3, rfl⟩ := hr3.form
    clear hr3 hp3 hw3
    go_wp2_with fail
    refine (atRef_any _ seq qs w3 H3.out HL.out).mono ?_; rintro e w4 ⟨⟨v4, ps', rfl, hr4, hp4⟩, hw4⟩
    have HR4 := Lib.hid hr4; have HP4 := Lib.hid hp4; have HB4 := Lib.hid (HB3.out.trans (hw4.mono HB3.out.size)); have HR34 := Lib.hid (HR3.out.up hw4)
    obtain ⟨A4, c4, rfl⟩ := hr4.form
    clear hr4 hp4 hw4
    have HE : Hid (ps.map Pr.p = ps'.map Pr.p) := Lib.hid (HP3.out.trans HP4.out.symm)
    have HSA := Lib.hid (sameAllP _ _ ps ps' w4 HR34.out HR4.out (by have := pairs_len HP3.out; have := HL.out; omega) (by have := pairs_len HP4.out; have := HL.out; omega))
    go_wp2_with fail
    refine HSA.out.mono ?_; rintro e w5 ⟨rfl, hw5⟩
    have HB5 := Lib.hid (HB4.out.trans (hw5.mono HB4.out.size)); clear hw5
    rw [decide_eq_true HE.out]
    go_wp2_with fail
    go_ret
    exact ⟨by first | rfl | simp, HB5.out⟩
end Go.Proofs.Ytfcemlcocdhmfaa
