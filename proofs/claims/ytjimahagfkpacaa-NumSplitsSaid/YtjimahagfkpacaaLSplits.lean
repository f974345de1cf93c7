/- The walk of NumSplits. -/
import Derived.Test.YtjimahagfkpacaaW3
import Derived.Test.YtjimahagfkpacaaW5
import Derived.Test.YtjimahagfkpacaaSM
namespace Go.Proofs.Ytjimahagfkpacaa
open Go.RowKit Go
set_option linter.unusedVariables false
set_option linter.unusedSimpArgs false

theorem rd_empty (w : World) (B : Nat) : Rd w B 1 none 0 (ints []) := ⟨rfl, fun h => absurd h (by simp)⟩
set_option maxRecDepth 100000 in
set_option maxHeartbeats 6400000 in
theorem numSplits_walk (a : Int) (A : Option Addr) (ws : List Int) (n c : Nat) (w : World) (hn : ws.length = n) (hr : Rd w w.heap.size 1 A n (ints ws)) (hm : n ≤ maxLen) :
    Calls Try.prog 5 #[.int .i64 a, .slice A n c] w fun e w' => e = .returned (.bool true) ∧ Below w.heap.size w w' := by
  unfold maxLen at hm
  have HN := Lib.hid hn; have HR := Lib.hid hr
  clear hn hr
  go_enter Try.func5, Try.ntmps5
  go_wp2_with fail
  refine (awake_anyW w).mono ?_; rintro e w1 ⟨rfl, hw1⟩
  have HW1 := Lib.hid hw1; have HR1 := Lib.hid ((HR.out.below hw1).wider hw1.size); have hz1 := hw1.size
  clear hw1
  by_cases h : n ≤ 1000
  · have HSP := Lib.hid (split_any a A ws n c w1 HN.out HR1.out (by unfold maxLen; omega))
    go_wp2_with fail
    refine HSP.out.mono ?_; intro e w2 h
    obtain ⟨hb2, ⟨hno, rfl⟩ | ⟨hyes, g, cg, l, rfl, hsp, hrd⟩⟩ := h
    · have HB2 := Lib.hid (HW1.out.trans (hb2.mono hz1))
      have HRF := Lib.hid (splitRef_any a A ws [] n c w2 HN.out ((HR1.out.below hb2).wider hb2.size) h (fun h => by rw [hno] at h; cases h))
      have HNO := Lib.hid hno
      clear hb2 hno HSP
      go_wp2_with fail
      refine HRF.out.mono ?_; intro e w3 h
      obtain ⟨hb3, ⟨_, rfl⟩ | ⟨hyes, _⟩⟩ := h
      · have HB3 := Lib.hid (HB2.out.trans (hb3.mono HB2.out.size))
        have HSM := Lib.hid (same_anyW none none [] [] 0 0 0 0 w3 (rd_empty _ _) (rd_empty _ _) (by omega))
        clear hb3
        go_wp2_with fail
        refine HSM.out.mono ?_; rintro e w4 ⟨rfl, hb4⟩
        have HB4 := Lib.hid (HB3.out.trans (hb4.mono HB3.out.size))
        simp only [decide_true]
        clear hb4
        go_wp2_with fail
        go_ret
        exact ⟨ret_bool (by simp), HB4.out⟩
      · exact absurd hyes (by rw [HNO.out]; decide)
    · have HB2 := Lib.hid (HW1.out.trans (hb2.mono hz1))
      have HRF := Lib.hid (splitRef_any a A ws l n c w2 HN.out ((HR1.out.below hb2).wider hb2.size) h (fun _ => hsp))
      have HYES := Lib.hid hyes
      rw [HN.out] at hrd
      rw [HN.out]
      have HRD := Lib.hid hrd
      clear hb2 hyes hsp hrd HSP
      go_wp2_with fail
      refine HRF.out.mono ?_; intro e w3 h
      obtain ⟨hb3, ⟨hno, _⟩ | ⟨_, g', cg', rfl, hrd2⟩⟩ := h
      · exact absurd HYES.out (by rw [hno]; decide)
      · have HB3 := Lib.hid (HB2.out.trans (hb3.mono HB2.out.size))
        rw [HN.out] at hrd2
        rw [HN.out]
        have HSM := Lib.hid (same_anyW (some ⟨g, 0, none⟩) (some ⟨g', 0, none⟩) l l n n cg cg' w3 ((HRD.out.below hb3).wider hb3.size) hrd2 (by omega))
        clear hb3 hrd2
        go_wp2_with fail
        refine HSM.out.mono ?_; rintro e w4 ⟨rfl, hb4⟩
        have HB4 := Lib.hid (HB3.out.trans (hb4.mono HB3.out.size))
        simp only [decide_true]
        clear hb4
        go_wp2_with fail
        go_ret
        exact ⟨ret_bool (by simp), HB4.out⟩
  · go_wp2_with fail
    go_ret
    exact ⟨rfl, HW1.out⟩
end Go.Proofs.Ytjimahagfkpacaa
