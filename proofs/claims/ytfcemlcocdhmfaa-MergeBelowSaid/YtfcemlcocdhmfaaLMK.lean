/- The walk of MergeKeeps. -/
import Derived.Test.YtfcemlcocdhmfaaXL
import Derived.Test.YtfcemlcocdhmfaaXM
namespace Go.Proofs.Ytfcemlcocdhmfaa
open Go.RowKit Go
set_option linter.unusedVariables false
set_option linter.unusedSimpArgs false

theorem keepS_len (ms : List Int) (bot : Bool) (rs : List Rc) : (KeepS ms bot rs).length ≤ rs.length := by
  unfold KeepS
  split
  · exact (keep_sub ms bot rs).length_le
  · simp
theorem kept_le {ms : List Int} {bot : Bool} {ks qs : List El} (h : ks.map El.r = KeepS ms bot (qs.map El.r)) : ks.length ≤ qs.length := by
  have h1 := congrArg List.length h
  have h2 := keepS_len ms bot (qs.map El.r)
  simp only [List.length_map] at h1 h2; omega
set_option maxHeartbeats 1600000 in
set_option maxRecDepth 100000 in
theorem mergeKeeps_walk (A : Option Addr) (c : Nat) (qs : List El) (Am : Option Addr) (nm cm : Nat) (ms : List Int) (bot : Bool) (w : World) (h : RowB w (.slice A qs.length c) qs) (hms : Rd w w.heap.size 1 Am nm (ints ms)) :
    Calls Try.prog 6 #[.slice A qs.length c, .slice Am nm cm, .bool bot] w fun e w' => e = .returned (.bool true) ∧ Below w.heap.size w w' := by
  have H := Lib.hid h; have HM := Lib.hid hms; clear h hms
  go_enter Try.func6, Try.ntmps6
  go_wp2_with fail
  refine (awake_any w).mono ?_; rintro e w1 ⟨rfl, hw1⟩
  have HB1 := Lib.hid hw1; have H1 := Lib.hid (H.out.up hw1)
  clear hw1
  go_wp2_with fail
  refine (few_any _ qs w1 H1.out).mono ?_; rintro e w2 ⟨m, rfl, hm, rfl⟩
  cases m with
  | false =>
    go_wp2_with fail
    go_ret
    exact ⟨by first | rfl | simp, HB1.out⟩
  | true =>
    have HF := Lib.hid (hm rfl); clear hm
    by_cases h100 : 100 < nm
    · have h100' : (100 : Int) < (nm : Int) := by omega
      go_wp2_with fail
      go_ret
      exact ⟨by first | rfl | simp, HB1.out⟩
    · have h100' : (nm : Int) ≤ 100 := by omega
      have hnm : nm ≤ 1000000 := by omega
      have hl : qs.length ≤ 1000000 := Nat.le_trans HF.out.len (by omega)
      have HL := Lib.hid hl; have HNM := Lib.hid hnm
      have HK1 := Lib.hid (keep_any _ Am nm cm bot ms qs w2 H1.out hl HF.out.lens ((HM.out.below HB1.out).wider HB1.out.size) hnm)
      clear hl hnm h100
      go_wp2_with fail
      refine HK1.out.mono ?_; rintro e w3 ⟨⟨v3, ks, rfl, hr3, hp3, _⟩, hw3⟩
      have HR3 := Lib.hid hr3; have HP3 := Lib.hid hp3; have HB3 := Lib.hid (HB1.out.trans (hw3.mono HB1.out.size)); have H3 := Lib.hid (H1.out.up hw3)
      obtain ⟨A3, c3, rfl⟩ := hr3.form
      have HK2 := Lib.hid (keepRef_any _ Am nm cm bot ms qs w3 H3.out HL.out ((HM.out.below HB3.out).wider HB3.out.size) HNM.out)
      clear hr3 hp3 hw3 HK1
      go_wp2_with fail
      refine HK2.out.mono ?_; rintro e w4 ⟨⟨v4, ks', rfl, hr4, hp4⟩, hw4⟩
      have HR4 := Lib.hid hr4; have HP4 := Lib.hid hp4; have HB4 := Lib.hid (HB3.out.trans (hw4.mono HB3.out.size)); have HR34 := Lib.hid (HR3.out.up hw4)
      obtain ⟨A4, c4, rfl⟩ := hr4.form
      clear hr4 hp4 hw4 HK2
      have HE : Hid (ks.map El.r = ks'.map El.r) := Lib.hid (HP3.out.trans HP4.out.symm)
      have HSA := Lib.hid (sameAllB _ _ ks ks' w4 HR34.out HR4.out (by have := kept_le HP3.out; have := HL.out; omega) (by have := kept_le HP4.out; have := HL.out; omega))
      rw [decide_eq_true HE.out] at HSA
      go_wp2_with fail
      refine HSA.out.mono ?_; rintro e w5 ⟨rfl, hw5⟩
      have HB5 := Lib.hid (HB4.out.trans (hw5.mono HB4.out.size)); clear hw5 HSA
      go_wp2_with fail
      go_ret
      exact ⟨by first | rfl | simp, HB5.out⟩
end Go.Proofs.Ytfcemlcocdhmfaa
