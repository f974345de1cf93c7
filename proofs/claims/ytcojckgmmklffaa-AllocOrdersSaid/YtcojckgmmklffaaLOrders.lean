/- The walk of AllocOrders. -/
import Derived.Test.YtcojckgmmklffaaAX5
import Derived.Test.YtcojckgmmklffaaAL0
namespace Go.Proofs.Ytcojckgmmklffaa
open Go.RowKit Go
set_option linter.unusedVariables false
set_option linter.unusedSimpArgs false

theorem sameIt_nil (w : World) : Calls Try.prog 14 #[.slice none 0 0, .slice none 0 0] w fun e w' => e = .returned (.bool true) ∧ Below w.heap.size w w' :=
  sameIt_any none none [] 0 0 0 0 w Rd.nil Rd.nil (by omega)
set_option maxHeartbeats 6400000 in
theorem allocOrders_walk (A : Option Addr) (its : List Dq) (n c : Nat) (w : World) (hn : its.length = n) (hr : Rd w w.heap.size 4 A n (itCs its)) (hm : n ≤ maxLen) :
    Calls Try.prog 3 #[.slice A n c] w fun e w' => e = .returned (.bool true) ∧ Below w.heap.size w w' := by
  unfold maxLen at hm
  have HN := Lib.hid hn; have HR := Lib.hid hr
  clear hn hr
  go_enter Try.func3, Try.ntmps3
  go_wp2_with fail
  refine (awake_any w).mono ?_; rintro e w1 ⟨rfl, hw1⟩
  have HW1 := Lib.hid hw1; have HR1 := Lib.hid ((HR.out.below hw1).wider hw1.size); have hz1 := hw1.size
  clear hw1
  by_cases h : n ≤ 500
  · have HO := Lib.hid (order_list A its n c w1 HN.out HR1.out (by unfold maxLen; omega))
    have HQ := Lib.hid (fun wx (hx : Rd wx wx.heap.size 4 A n (itCs its)) => orderRef_any A its n c wx HN.out hx (by unfold maxLen; omega))
    have HT := Lib.hid (fun wx (hx : Rd wx wx.heap.size 4 A n (itCs its)) => total_any A its n c wx HN.out hx (by unfold maxLen; omega))
    have HTR := Lib.hid (fun wx (hx : Rd wx wx.heap.size 4 A n (itCs its)) => totalRef_any A its n c wx HN.out hx (by unfold maxLen; omega))
    go_wp2_with fail
    refine HO.out.mono ?_
    intro e w2 hp
    obtain ⟨hb2, hx⟩ := hp
    have HB2 := Lib.hid (HW1.out.trans (hb2.mono hz1))
    have HR2 := Lib.hid ((HR1.out.below hb2).wider hb2.size)
    have hz2 := HB2.out.size
    clear hb2 HO
    rcases hx with ⟨hne, rfl⟩ | ⟨he, X, cx, s, rfl, hrx, hso, hcx⟩
    · have HNE := Lib.hid hne; clear hne
      go_wp2_with fail
      refine (HQ.out _ HR2.out).mono ?_
      intro e w3 hp
      obtain ⟨hb3, ⟨hne, rfl⟩ | ⟨he, Y, cy, t, rfl, hry, hto, _⟩⟩ := hp
      · have HB3 := Lib.hid (HB2.out.trans (hb3.mono hz2))
        have HR3 := Lib.hid ((HR2.out.below hb3).wider hb3.size)
        have hz3 := HB3.out.size
        clear hb3 hne
        go_wp2_with fail
        refine (HT.out _ HR3.out).mono ?_; rintro e w4 ⟨rfl, hb4⟩
        have HB4 := Lib.hid (HB3.out.trans (hb4.mono hz3))
        have HR4 := Lib.hid ((HR3.out.below hb4).wider hb4.size)
        have hz4 := HB4.out.size
        clear hb4
        go_wp2_with fail
        refine (HTR.out _ HR4.out).mono ?_; rintro e w5 ⟨rfl, hb5⟩
        have HB5 := Lib.hid (HB4.out.trans (hb5.mono hz4))
        have hz5 := HB5.out.size
        clear hb5
        go_wp2_with fail
        refine (sameIt_nil _).mono ?_; rintro e w6 ⟨rfl, hb6⟩
        have HB6 := Lib.hid (HB5.out.trans (hb6.mono hz5))
        clear hb6
        go_wp2_with fail
        go_ret
        exact ⟨ret_bool (by simp), HB6.out⟩
      · exact absurd he HNE.out
    · have HE := Lib.hid he
      rw [HN.out] at hrx hcx
      rw [HN.out]
      have HRX := Lib.hid hrx; have HSO := Lib.hid hso
      clear he hrx hso
      go_wp2_with fail
      refine (HQ.out _ HR2.out).mono ?_
      intro e w3 hp
      obtain ⟨hb3, ⟨hne, rfl⟩ | ⟨he, Y, cy, t, rfl, hry, hto, hcy⟩⟩ := hp
      · exact absurd HE.out hne
      · have hst := HSO.out.same hto
        rw [HN.out] at hry hcy
        rw [HN.out]
        rw [← hst] at hry
        have HB3 := Lib.hid (HB2.out.trans (hb3.mono hz2))
        have HR3 := Lib.hid ((HR2.out.below hb3).wider hb3.size)
        have HRX3 := Lib.hid ((HRX.out.below hb3).wider hb3.size)
        have HRY3 := Lib.hid hry
        have hz3 := HB3.out.size
        clear hb3 he hry hto hst
        go_wp2_with fail
        refine (HT.out _ HR3.out).mono ?_; rintro e w4 ⟨rfl, hb4⟩
        have HB4 := Lib.hid (HB3.out.trans (hb4.mono hz3))
        have HR4 := Lib.hid ((HR3.out.below hb4).wider hb4.size)
        have HRX4 := Lib.hid ((HRX3.out.below hb4).wider hb4.size)
        have HRY4 := Lib.hid ((HRY3.out.below hb4).wider hb4.size)
        have hz4 := HB4.out.size
        clear hb4
        go_wp2_with fail
        refine (HTR.out _ HR4.out).mono ?_; rintro e w5 ⟨rfl, hb5⟩
        have HB5 := Lib.hid (HB4.out.trans (hb5.mono hz4))
        have HRX5 := Lib.hid ((HRX4.out.below hb5).wider hb5.size)
        have HRY5 := Lib.hid ((HRY4.out.below hb5).wider hb5.size)
        have hz5 := HB5.out.size
        clear hb5
        go_wp2_with fail
        refine (sameIt_any X Y s n n cx cy _ HRX5.out HRY5.out (by omega)).mono ?_; rintro e w6 ⟨rfl, hb6⟩
        have HB6 := Lib.hid (HB5.out.trans (hb6.mono hz5))
        clear hb6
        go_wp2_with fail
        go_ret
        exact ⟨ret_bool (by simp), HB6.out⟩
  · go_wp2_with fail
    go_ret
    exact ⟨rfl, HW1.out⟩
end Go.Proofs.Ytcojckgmmklffaa
