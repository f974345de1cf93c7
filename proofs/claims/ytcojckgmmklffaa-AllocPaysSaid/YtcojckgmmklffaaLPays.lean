/- The walk of AllocPays. -/
import Derived.Test.YtcojckgmmklffaaAL0
import Derived.Test.YtcojckgmmklffaaAX3
namespace Go.Proofs.Ytcojckgmmklffaa
open Go.RowKit Go
set_option linter.unusedVariables false
set_option linter.unusedSimpArgs false

theorem same_nil (w : World) : Calls Try.prog 17 #[.slice none 0 0, .slice none 0 0] w fun e w' => e = .returned (.bool true) ∧ Below w.heap.size w w' :=
  (same_any none none [] [] 0 0 0 0 w Rd.nil Rd.nil (by omega)).mono fun e w' h => ⟨by rw [h.1]; rfl, h.2⟩
set_option maxHeartbeats 3200000 in
theorem allocPays_walk (A : Option Addr) (its : List Dq) (a : Int) (n c : Nat) (w : World) (hn : its.length = n) (hr : Rd w w.heap.size 4 A n (itCs its)) (hm : n ≤ maxLen) :
    Calls Try.prog 4 #[.slice A n c, .int .i64 a] w fun e w' => e = .returned (.bool true) ∧ Below w.heap.size w w' := by
  unfold maxLen at hm
  have HN := Lib.hid hn; have HR := Lib.hid hr
  clear hn hr
  go_enter Try.func4, Try.ntmps4
  go_wp2_with fail
  refine (awake_any w).mono ?_; rintro e w1 ⟨rfl, hw1⟩
  have HW1 := Lib.hid hw1; have HR1 := Lib.hid ((HR.out.below hw1).wider hw1.size); have hz1 := hw1.size
  clear hw1
  by_cases h : n ≤ 500
  · have HP := Lib.hid (pay_n A its a n c w1 HN.out HR1.out (by unfold maxLen; omega))
    go_wp2_with fail
    refine HP.out.mono ?_
    intro e w2 hp
    obtain ⟨hb2, hx⟩ := hp
    have HB2 := Lib.hid (HW1.out.trans (hb2.mono hz1))
    have HR2 := Lib.hid ((HR1.out.below hb2).wider hb2.size)
    have HP2 := Lib.hid (payRef_any A its a n c w2 HN.out HR2.out (by unfold maxLen; omega))
    have hz2 := HB2.out.size
    clear hb2
    rcases hx with ⟨hne, rfl⟩ | ⟨he, X, cx, rfl, hrx, hcx⟩
    · have HNE := Lib.hid hne; clear hne
      go_wp2_with fail
      refine HP2.out.mono ?_
      intro e w3 hp
      obtain ⟨hb3, ⟨hne, rfl⟩ | ⟨he, Y, cy, rfl, hry, _⟩⟩ := hp
      · have HB3 := Lib.hid (HB2.out.trans (hb3.mono hz2))
        clear hb3 hne
        go_wp2_with fail
        refine (same_nil _).mono ?_; rintro e w4 ⟨rfl, hw4⟩
        have HB4 := Lib.hid (HB3.out.trans (hw4.mono HB3.out.size))
        clear hw4
        go_wp2_with fail
        go_ret
        exact ⟨ret_bool (by simp), HB4.out⟩
      · exact absurd he HNE.out
    · have HE := Lib.hid he; have HRX := Lib.hid hrx
      clear he hrx
      rw [HN.out] at HRX hcx
      rw [HN.out]
      go_wp2_with fail
      refine HP2.out.mono ?_
      intro e w3 hp
      obtain ⟨hb3, ⟨hne, rfl⟩ | ⟨he, Y, cy, rfl, hry, hcy⟩⟩ := hp
      · exact absurd HE.out hne
      · have HB3 := Lib.hid (HB2.out.trans (hb3.mono hz2))
        have HRX3 := Lib.hid ((HRX.out.below hb3).wider hb3.size)
        rw [HN.out] at hry hcy
        rw [HN.out]
        have HRY := Lib.hid hry
        clear hb3 he hry HRX
        go_wp2_with fail
        refine (same_any X Y _ _ n n cx cy _ HRX3.out HRY.out (by omega)).mono ?_; rintro e w4 ⟨rfl, hw4⟩
        rw [decide_eq_true rfl]
        have HB4 := Lib.hid (HB3.out.trans (hw4.mono HB3.out.size))
        clear hw4
        go_wp2_with fail
        go_ret
        exact ⟨ret_bool (by simp), HB4.out⟩
  · go_wp2_with fail
    go_ret
    exact ⟨rfl, HW1.out⟩
end Go.Proofs.Ytcojckgmmklffaa
