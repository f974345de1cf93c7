/- assess: right, Right, late; the reference's Right. -/
import Derived.Test.YtbjjgnaojoaoiaaGreatK11
namespace Go.Proofs.YtbjjgnaojoaoiaaGreat
open Go.RowKit Go
set_option linter.unusedVariables false
set_option linter.unusedSimpArgs false

@[reducible] def retV (r : Ret) : Value := .agg #[.int .i64 r.per, .int .i64 r.due, .int .i64 r.filed, .int .i64 r.inc, .int .i64 r.wh]
theorem day2g (a b : Int) (g : Nat) (w : World) (hg : g = w.heap.size) : Calls Tryz.prog 173 #[.slice (some ⟨g, 0, none⟩) 2 2] (w.alloc (.cells #[.int .i64 a, .int .i64 b] 3)) fun e w' => e = .returned (.bool (dayB a && dayB b)) ∧ w.alloc (.cells #[.int .i64 a, .int .i64 b] 3) = w' := by subst hg; exact day2 a b w
set_option maxHeartbeats 3200000 in
set_option maxRecDepth 100000 in
theorem fright_any (r : Ret) (w : World) : Calls Tryz.prog 139 #[retV r] w fun e w' => e = .returned (.bool (retB r)) ∧ Below w.heap.size w w' := by
  obtain ⟨D, hD⟩ : ∃ D, (dayB r.due && dayB r.filed) = D := ⟨_, rfl⟩
  have HDY := Lib.hid (day2g r.due r.filed (w.heap.size + 1) (w.alloc (.cells #[.int .i64 r.per, .int .i64 r.due, .int .i64 r.filed, .int .i64 r.inc, .int .i64 r.wh] 136)) (by simp))
  by_cases hp : 1 ≤ r.per ∧ r.per ≤ 99999
  · by_cases hm : (mny r.inc && mny r.wh) = true
    · have HR : Hid (retB r = D) := by
        show _ = _
        have hm' : mny r.inc = true ∧ mny r.wh = true := by simpa using hm
        rw [← hD, retB, decide_eq_true hp, hm'.1, hm'.2]; simp
      have h1 := mny_yes (show mny r.inc = true by simp at hm; exact hm.1)
      have h2 := mny_yes (show mny r.wh = true by simp at hm; exact hm.2)
      rw [hD] at HDY
      clear hm hD
      go_enter Tryz.func139, Tryz.ntmps139
      go_wp2_with fail
      all_goals
        refine HDY.out.mono ?_; rintro e w' ⟨rfl, rfl⟩
        cases D
        all_goals
          go_wp2_with fail
          go_ret
          exact ⟨ret_bool (by rw [HR.out]; try first | rfl | (simp; done) | (simp; omega)), (by repeat' (first | (with_reducible exact Below.refl _ _) | (with_reducible refine Below.alloc ?_ ?_ _) | (with_reducible refine below_drewN ?_ _) | (with_reducible refine Below.drew ?_) | (with_reducible refine Below.setCell ?_ ?_ _) | (with_reducible refine Below.trans ?_ (Below.mono HW0.out ?_)) | (with_reducible refine Below.trans ?_ (Below.mono HW1.out ?_)) | (with_reducible refine Below.trans ?_ (Below.mono HW2.out ?_)) | (with_reducible refine Below.trans ?_ (Below.mono HW3.out ?_)) | (with_reducible refine Below.trans ?_ (Below.mono HW4.out ?_)) | (with_reducible refine Below.trans ?_ (Below.mono HW5.out ?_)) | (with_reducible refine Below.trans ?_ (Below.mono HW6.out ?_)) | (with_reducible refine Below.trans ?_ (Below.mono HW7.out ?_)) | (with_reducible exact Nat.le_refl _) | omega | (simp only [World.size_alloc, World.size_setCell, World.size_drew, size_drewN]; omega) | (simp; done) | (simp; omega)))⟩
    · have HR : Hid (retB r = false) := by
        show _ = _
        rw [Bool.eq_false_iff]; intro h; have := retB_yes h
        exact hm (by rw [this.2.2.2.1, this.2.2.2.2]; rfl)
      have hbad : r.inc < 0 ∨ r.wh < 0 ∨ (0 ≤ r.inc ∧ 0 ≤ r.wh) ∧ (1125899906842624 < r.inc ∨ 1125899906842624 < r.wh) := by
        by_cases h1 : mny r.inc = true
        · have h2 : ¬ mny r.wh = true := fun h2 => hm (by rw [h1, h2]; rfl)
          have := mny_yes h1; have := mny_no h2; omega
        · have := mny_no h1; omega
      rw [hD] at HDY
      clear hm hD
      rcases hbad with h | h | ⟨⟨h1, h2⟩, h | h⟩
      all_goals
        go_enter Tryz.func139, Tryz.ntmps139
        go_wp2_with fail
        all_goals
          refine HDY.out.mono ?_; rintro e w' ⟨rfl, rfl⟩
          cases D
          all_goals
            go_wp2_with fail
            go_ret
            exact ⟨ret_bool (by rw [HR.out]; try first | rfl | (simp; done) | (simp; omega)), (by repeat' (first | (with_reducible exact Below.refl _ _) | (with_reducible refine Below.alloc ?_ ?_ _) | (with_reducible refine below_drewN ?_ _) | (with_reducible refine Below.drew ?_) | (with_reducible refine Below.setCell ?_ ?_ _) | (with_reducible refine Below.trans ?_ (Below.mono HW0.out ?_)) | (with_reducible refine Below.trans ?_ (Below.mono HW1.out ?_)) | (with_reducible refine Below.trans ?_ (Below.mono HW2.out ?_)) | (with_reducible refine Below.trans ?_ (Below.mono HW3.out ?_)) | (with_reducible refine Below.trans ?_ (Below.mono HW4.out ?_)) | (with_reducible refine Below.trans ?_ (Below.mono HW5.out ?_)) | (with_reducible refine Below.trans ?_ (Below.mono HW6.out ?_)) | (with_reducible refine Below.trans ?_ (Below.mono HW7.out ?_)) | (with_reducible exact Nat.le_refl _) | omega | (simp only [World.size_alloc, World.size_setCell, World.size_drew, size_drewN]; omega) | (simp; done) | (simp; omega)))⟩
  · have HR : Hid (retB r = false) := by
      show _ = _
      rw [Bool.eq_false_iff]; intro h; exact hp (retB_yes h).1
    have hbad : r.per < 1 ∨ 99999 < r.per := by omega
    clear hp hD
    rcases hbad with h | h
    all_goals
      go_enter Tryz.func139, Tryz.ntmps139
      go_wp2_with fail
      all_goals go_ret
      all_goals exact ⟨ret_bool HR.out.symm, (by repeat' (first | (with_reducible exact Below.refl _ _) | (with_reducible refine Below.alloc ?_ ?_ _) | (with_reducible refine below_drewN ?_ _) | (with_reducible refine Below.drew ?_) | (with_reducible refine Below.setCell ?_ ?_ _) | (with_reducible refine Below.trans ?_ (Below.mono HW0.out ?_)) | (with_reducible refine Below.trans ?_ (Below.mono HW1.out ?_)) | (with_reducible refine Below.trans ?_ (Below.mono HW2.out ?_)) | (with_reducible refine Below.trans ?_ (Below.mono HW3.out ?_)) | (with_reducible refine Below.trans ?_ (Below.mono HW4.out ?_)) | (with_reducible refine Below.trans ?_ (Below.mono HW5.out ?_)) | (with_reducible refine Below.trans ?_ (Below.mono HW6.out ?_)) | (with_reducible refine Below.trans ?_ (Below.mono HW7.out ?_)) | (with_reducible exact Nat.le_refl _) | omega | (simp only [World.size_alloc, World.size_setCell, World.size_drew, size_drewN]; omega) | (simp; done) | (simp; omega)))⟩
set_option maxHeartbeats 800000 in
set_option maxRecDepth 100000 in
theorem aright_any (r : Ret) (w : World) : Calls Tryz.prog 89 #[retV r] w fun e w' => e = .returned (.bool (retB r)) ∧ Below w.heap.size w w' := by
  have HF := Lib.hid (fright_any r (w.alloc (.cells #[.int .i64 r.per, .int .i64 r.due, .int .i64 r.filed, .int .i64 r.inc, .int .i64 r.wh] 37)))
  go_enter Tryz.func89, Tryz.ntmps89
  go_wp2_with fail
  refine HF.out.mono ?_; rintro e w1 ⟨rfl, hw1⟩
  have HW1 := Lib.hid ((below_new w _).trans (hw1.mono (by simp)))
  clear hw1
  go_wp2_with fail
  go_ret
  exact ⟨rfl, HW1.out⟩
theorem late_any (r : Ret) (w : World) (h1 : dayB r.due = true) (h2 : dayB r.filed = true) : Calls Tryz.prog 90 #[retV r] w fun e w' => e = .returned (.int .i64 (lateI r)) ∧ Below w.heap.size w w' := by
  have HF := Lib.hid (amonths_any r.due r.filed (w.alloc (.cells #[.int .i64 r.per, .int .i64 r.due, .int .i64 r.filed, .int .i64 r.inc, .int .i64 r.wh] 136)))
  have he : lateS r.due r.filed = (lateI r, 0) := if_pos (by rw [h1, h2]; rfl)
  rw [he] at HF
  clear he h1 h2
  go_enter Tryz.func90, Tryz.ntmps90
  go_wp2_with fail
  refine HF.out.mono ?_; rintro e w1 ⟨rfl, hw1⟩
  have HW1 := Lib.hid ((below_new w _).trans (hw1.mono (by simp)))
  clear hw1
  go_wp2_with fail
  go_ret
  exact ⟨rfl, HW1.out⟩
set_option maxHeartbeats 1600000 in
set_option maxRecDepth 100000 in
theorem rretright_any (r : Ret) (w : World) : Calls Tryz.prog 155 #[retV r] w fun e w' => e = .returned (.bool (retB r)) ∧ Below w.heap.size w w' := by
  obtain ⟨d1, h1⟩ : ∃ d, dayB r.due = d := ⟨_, rfl⟩
  obtain ⟨d2, h2⟩ : ∃ d, dayB r.filed = d := ⟨_, rfl⟩
  obtain ⟨d3, h3⟩ : ∃ d, mny r.inc = d := ⟨_, rfl⟩
  obtain ⟨d4, h4⟩ : ∃ d, mny r.wh = d := ⟨_, rfl⟩
  have HR : Hid (retB r = (decide (1 ≤ r.per ∧ r.per ≤ 99999) && d1 && d2 && d3 && d4)) := by show _ = _; rw [retB, h1, h2, h3, h4]
  have i1 := fun wx => isDay_any r.due wx
  have i2 := fun wx => isDay_any r.filed wx
  have i3 := fun wx => isMoney_any r.inc wx
  have i4 := fun wx => isMoney_any r.wh wx
  rw [h1] at i1; rw [h2] at i2; rw [h3] at i3; rw [h4] at i4
  have I1 := Lib.hid i1; have I2 := Lib.hid i2; have I3 := Lib.hid i3; have I4 := Lib.hid i4
  clear i1 i2 i3 i4 h1 h2 h3 h4
  by_cases hp : 1 ≤ r.per ∧ r.per ≤ 99999
  · rw [decide_eq_true hp] at HR
    obtain ⟨p1, p2⟩ := hp
    go_enter Tryz.func155, Tryz.ntmps155
    go_wp2_with fail
    refine (I1.out _).mono ?_; rintro e w' ⟨rfl, rfl⟩
    go_wp2_with fail
    refine (I2.out _).mono ?_; rintro e w' ⟨rfl, rfl⟩
    go_wp2_with fail
    refine (I3.out _).mono ?_; rintro e w' ⟨rfl, rfl⟩
    go_wp2_with fail
    refine (I4.out _).mono ?_; rintro e w' ⟨rfl, rfl⟩
    cases d1 <;> cases d2 <;> cases d3 <;> cases d4
    all_goals
      go_wp2_with fail
      go_ret
      exact ⟨ret_bool (by rw [HR.out]; try first | rfl | (simp; done)), (by repeat' (first | (with_reducible exact Below.refl _ _) | (with_reducible refine Below.alloc ?_ ?_ _) | (with_reducible refine below_drewN ?_ _) | (with_reducible refine Below.drew ?_) | (with_reducible refine Below.setCell ?_ ?_ _) | (with_reducible refine Below.trans ?_ (Below.mono HW0.out ?_)) | (with_reducible refine Below.trans ?_ (Below.mono HW1.out ?_)) | (with_reducible refine Below.trans ?_ (Below.mono HW2.out ?_)) | (with_reducible refine Below.trans ?_ (Below.mono HW3.out ?_)) | (with_reducible refine Below.trans ?_ (Below.mono HW4.out ?_)) | (with_reducible refine Below.trans ?_ (Below.mono HW5.out ?_)) | (with_reducible refine Below.trans ?_ (Below.mono HW6.out ?_)) | (with_reducible refine Below.trans ?_ (Below.mono HW7.out ?_)) | (with_reducible exact Nat.le_refl _) | omega | (simp only [World.size_alloc, World.size_setCell, World.size_drew, size_drewN]; omega) | (simp; done) | (simp; omega)))⟩
  · rw [decide_eq_false hp] at HR
    have hbad : r.per < 1 ∨ 99999 < r.per := by omega
    clear hp
    rcases hbad with h | h
    all_goals
      go_enter Tryz.func155, Tryz.ntmps155
      go_wp2_with fail
      refine (I1.out _).mono ?_; rintro e w' ⟨rfl, rfl⟩
      go_wp2_with fail
      refine (I2.out _).mono ?_; rintro e w' ⟨rfl, rfl⟩
      go_wp2_with fail
      refine (I3.out _).mono ?_; rintro e w' ⟨rfl, rfl⟩
      go_wp2_with fail
      refine (I4.out _).mono ?_; rintro e w' ⟨rfl, rfl⟩
      go_wp2_with fail
      all_goals go_ret
      all_goals exact ⟨ret_bool (by rw [HR.out]; try first | rfl | (simp; done)), (by repeat' (first | (with_reducible exact Below.refl _ _) | (with_reducible refine Below.alloc ?_ ?_ _) | (with_reducible refine below_drewN ?_ _) | (with_reducible refine Below.drew ?_) | (with_reducible refine Below.setCell ?_ ?_ _) | (with_reducible refine Below.trans ?_ (Below.mono HW0.out ?_)) | (with_reducible refine Below.trans ?_ (Below.mono HW1.out ?_)) | (with_reducible refine Below.trans ?_ (Below.mono HW2.out ?_)) | (with_reducible refine Below.trans ?_ (Below.mono HW3.out ?_)) | (with_reducible refine Below.trans ?_ (Below.mono HW4.out ?_)) | (with_reducible refine Below.trans ?_ (Below.mono HW5.out ?_)) | (with_reducible refine Below.trans ?_ (Below.mono HW6.out ?_)) | (with_reducible refine Below.trans ?_ (Below.mono HW7.out ?_)) | (with_reducible exact Nat.le_refl _) | omega | (simp only [World.size_alloc, World.size_setCell, World.size_drew, size_drewN]; omega) | (simp; done) | (simp; omega)))⟩
end Go.Proofs.YtbjjgnaojoaoiaaGreat
