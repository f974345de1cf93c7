/- awake; the walk of AssessMonths. -/
import Derived.Test.YtilcgpaefkapaaaAB
namespace Go.Proofs.Ytilcgpaefkapaaa
open Go.RowKit Go
set_option linter.unusedVariables false
set_option linter.unusedSimpArgs false

def flatS : Sch := ⟨[⟨0, 1000⟩], 0, 0, 500, 5, 10⟩
def awakeR : Ret := ⟨1, 100, 135, 1000, 40⟩
theorem flat_ok : OkS flatS := by
  refine ⟨by decide, by decide, by decide, by decide, fun i hi => ?_, by decide, by decide, by decide⟩
  have h0 : i = 0 := by simp [flatS] at hi; exact hi
  subst h0
  exact ⟨by decide, by decide, fun h => absurd h (Nat.lt_irrefl _)⟩
theorem flat_late : lateI awakeR = 2 := by
  have g : IsD 100 1 4 11 := by refine ⟨?_, ?_, ?_, ?_⟩ <;> decide
  have g1 : IsD 135 1 5 16 := by refine ⟨?_, ?_, ?_, ?_⟩ <;> decide
  have e : lateD 100 135 = 2 := by
    unfold lateD
    rw [if_neg (by decide), mi_eq g, mi_eq g1]
    decide
  show ((lateD 100 135 : Nat) : Int) = 2
  rw [e]; rfl
theorem flat_bill : billS flatS awakeR = (⟨100, 60, 10, 0⟩, 0) := by
  have h1 : taxV flatS awakeR.inc = 100 := by decide
  have h2 : prinV flatS awakeR = 60 := by decide
  have h3 : penV flatS 60 2 = 10 := by decide
  rw [billS_yes flat_ok (by decide), billV, flat_late, h1, h2, h3]
  rfl
theorem Rd.freshg (w : World) (cs : Array Value) (t : TypeId) (n s g : Nat) (h : cs.size = n * s) (hg : g = w.heap.size) : Rd (w.alloc (.cells cs t)) (w.alloc (.cells cs t)).heap.size s (some ⟨g, 0, none⟩) n cs.toList := by subst hg; exact Rd.fresh w cs t n s h
theorem flat_any (w : World) : Calls Try.prog 19 #[] w fun e w' => (∃ A, e = .returned (schV A 1 1 flatS) ∧ Rd w' w'.heap.size 2 A 1 (brCs flatS.bs)) ∧ Below w.heap.size w w' := by
  go_enter Try.func19, Try.ntmps19
  go_wp2_with fail
  refine bodyPost_ret (results_cell_row rfl _ _ w.heap.size 29 #[.slice (some ⟨w.heap.size + 1, 0, none⟩) 1 1, .int .i64 0, .int .i64 0, .int .i64 500, .int .i64 5, .int .i64 10] (0, 0) _ (by rfl) (blk_alloc (blk_new w _ rfl) _) Try.underlying29 rfl (by kernel_rfl)) rfl ?_
  refine ⟨⟨some ⟨w.heap.size + 1, 0, none⟩, rfl, ?_⟩, (by repeat' (first | (with_reducible exact Below.refl _ _) | (with_reducible refine Below.alloc ?_ ?_ _) | (with_reducible refine below_drewN ?_ _) | (with_reducible refine Below.drew ?_) | (with_reducible refine Below.setCell ?_ ?_ _) | (with_reducible refine Below.trans ?_ (Below.mono HW0.out ?_)) | (with_reducible refine Below.trans ?_ (Below.mono HW1.out ?_)) | (with_reducible refine Below.trans ?_ (Below.mono HW2.out ?_)) | (with_reducible refine Below.trans ?_ (Below.mono HW3.out ?_)) | (with_reducible refine Below.trans ?_ (Below.mono HW4.out ?_)) | (with_reducible refine Below.trans ?_ (Below.mono HW5.out ?_)) | (with_reducible refine Below.trans ?_ (Below.mono HW6.out ?_)) | (with_reducible refine Below.trans ?_ (Below.mono HW7.out ?_)) | (with_reducible exact Nat.le_refl _) | omega | (simp only [World.size_alloc, World.size_setCell, World.size_drew, size_drewN]; omega) | (simp; done) | (simp; omega)))⟩
  exact Rd.freshg (w.alloc (.cells #[.slice (some ⟨w.heap.size + 1, 0, none⟩) 1 1, .int .i64 0, .int .i64 0, .int .i64 500, .int .i64 5, .int .i64 10] 29)) #[.int .i64 0, .int .i64 1000] 66 1 2 (w.heap.size + 1) rfl (by simp)
set_option maxHeartbeats 1600000 in
theorem awake_any (w : World) : Calls Try.prog 9 #[] w fun e w' => e = .returned (.bool true) ∧ Below w.heap.size w w' := by
  go_enter Try.func9, Try.ntmps9
  go_wp2_with fail
  refine (flat_any w).mono ?_; rintro e w1 ⟨⟨A, rfl, hr⟩, hw1⟩
  have HB1 := Lib.hid hw1
  have hb := bill_any A 1 1 flatS awakeR w1 rfl hr
  rw [flat_bill] at hb
  have HB := Lib.hid hb
  clear hr hw1 hb
  go_wp2_with fail
  refine HB.out.mono ?_; rintro e w2 ⟨rfl, hw2⟩
  have HB2 := Lib.hid (HB1.out.trans (hw2.mono HB1.out.size))
  clear hw2
  go_wp2_with fail
  go_ret
  exact ⟨rfl, HB2.out.alloc HB2.out.size _⟩
set_option maxHeartbeats 1600000 in
theorem assessMonths_walk (due filed : Int) (w : World) :
    Calls Try.prog 3 #[.int .i64 due, .int .i64 filed] w fun e w' => e = .returned (.bool true) ∧ Below w.heap.size w w' := by
  obtain ⟨x, e0, hl⟩ : ∃ x e0, lateS due filed = (x, e0) := ⟨_, _, rfl⟩
  have h1 := fun wx => amonths_any due filed wx
  have h2 := fun wx => rmonthsD_any due filed wx
  rw [hl] at h1 h2
  have H1 := Lib.hid h1; have H2 := Lib.hid h2
  clear h1 h2 hl
  go_enter Try.func3, Try.ntmps3
  go_wp2_with fail
  refine (awake_any w).mono ?_; rintro e w1 ⟨rfl, hw1⟩
  have HB1 := Lib.hid hw1; clear hw1
  go_wp2_with fail
  all_goals first
    | (go_ret; exact ⟨rfl, HB1.out⟩)
    | (refine (H1.out w1).mono ?_; rintro e w2 ⟨rfl, hw2⟩
       have HB2 := Lib.hid (HB1.out.trans (hw2.mono HB1.out.size)); clear hw2
       go_wp2_with fail
       refine (H2.out w2).mono ?_; rintro e w' ⟨rfl, rfl⟩
       have q1 : (x == x) = true := by simp
       have q2 : (e0 == e0) = true := by simp
       go_wp2_with fail
       go_ret
       exact ⟨ret_bool (by simp), HB2.out⟩)
end Go.Proofs.Ytilcgpaefkapaaa
