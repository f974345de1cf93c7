/- accrue.Run and the reference's: At. -/
import Derived.Test.YtpfcajekbkpabaaWS
namespace Go.Proofs.Ytpfcajekbkpabaa
open Go.RowKit Go
set_option linter.unusedVariables false
set_option linter.unusedSimpArgs false

theorem isDay_ref (a : Int) (w : World) : Calls Try.prog 37 #[.int .i64 a] w fun e w' => e = .returned (.bool (okD a)) ∧ w = w' := by
  by_cases h : okD a = true
  · have h1 := okD_yes h
    have H := Lib.hid h; clear h
    go_enter Try.func37, Try.ntmps37
    go_wp2
    go_ret
    exact ⟨ret_bool H.out.symm, rfl⟩
  · have h1 := okD_no h
    have H := Lib.hid h; clear h
    rcases h1 with h1 | h1
    all_goals
      go_enter Try.func37, Try.ntmps37
      go_wp2
      all_goals go_ret
      all_goals have e := Bool.eq_false_iff.2 H.out
      all_goals exact ⟨ret_bool (by first | (rw [e]; done) | (rw [e]; simp; omega)), rfl⟩


/-- A run lies in block g. -/
def RunAt (w : World) (g T : Nat) (P B S D : Int) : Prop := w.heap[g]? = some (.cells #[.int .i64 P, .int .i64 B, .int .i64 S, .int .i64 D] T (0, 0))

def atS (P B S D n : Int) : Int × Int := if okD n then (if n < S then (0, 10) else if (simpleS P B (n - S)).2 = 0 then addS D (simpleS P B (n - S)).1 else (0, (simpleS P B (n - S)).2)) else (0, 1)

theorem keep3 {w : World} {a b c : Addr} {x y z : Value} (h1 : w.cell? a = some x) (h2 : w.cell? b = some y) (h3 : w.cell? c = some z) : w.drew.cell? a = some x ∧ w.drew.cell? b = some y ∧ w.drew.cell? c = some z := ⟨h1, h2, h3⟩

set_option maxHeartbeats 800000 in
theorem at_any (g : Nat) (P B S D n : Int) (w : World) (hr : RunAt w g 61 P B S D) (hS : 0 ≤ S ∧ S ≤ 3652058) :
    Calls Try.prog 13 #[.pointer (some ⟨g, 0, none⟩), .int .i64 n] w fun e w' => e = .returned (pr (atS P B S D n)) ∧ Below w.heap.size w w' := by
  obtain ⟨c0, c1, c2, c3, c4⟩ := cells4 hr
  have hg := blk_lt hr
  by_cases hd : okD n = true
  · have hn := okD_yes hd
    by_cases hlt : n < S
    · have H : Hid (atS P B S D n = (0, 10)) := by show _ = _; rw [atS, if_pos hd, if_pos hlt]
      go_enter Try.func13, Try.ntmps13
      go_wp2_with fail
      refine (isD_any n _).mono ?_; rintro e w' ⟨rfl, rfl⟩
      rw [hd]; clear hd
      go_wp2_with fail
      go_ret2
      exact ⟨ret_pr H.out, Below.refl _ _⟩
    · obtain ⟨m, e0, hs⟩ : ∃ m e0, simpleS P B (n - S) = (m, e0) := ⟨_, _, rfl⟩
      by_cases he : e0 = 0
      · have H : Hid (atS P B S D n = addS D m) := by show _ = _; rw [atS, if_pos hd, if_neg hlt, hs, if_pos he]
        have HS := Lib.hid hs; clear hs
        subst he
        go_enter Try.func13, Try.ntmps13
        go_wp2_with fail
        refine (isD_any n _).mono ?_; rintro e w' ⟨rfl, rfl⟩
        rw [hd]; clear hd
        go_wp2_with fail
        have ew : IntKind.i64.wrap (n - S) = n - S := IntWalk.i64_in _ (by omega)
        go_region_held3 (fun w' => w'.cell? ⟨g, 0, none⟩ = some (.int .i64 P) ∧ w'.cell? ⟨g, 1, none⟩ = some (.int .i64 B) ∧ w'.cell? ⟨g, 2, none⟩ = some (.int .i64 S))
          ((first | (with_reducible exact keep3 c0 c1 c2) | (exact ⟨d0, d1, d2⟩)))
          ((go_at_call 9; refine (simple_any P B (n - S) _).mono ?_; rintro e w1 ⟨rfl, hw1⟩; obtain ⟨d0, d1, d2, d3, d4⟩ := cells4 (blk_below hr ((Below.refl _ _).drew.trans hw1) hg); rw [HS.out]; have HW1 := Lib.hid ((Below.refl _ _).drew.trans hw1 : Below w.heap.size w w1); clear hw1))
        clear ew
        go_wp2_with fail
        refine (add_any D m _).mono ?_; rintro e w2 ⟨rfl, hw2⟩
        have HW2 := Lib.hid hw2; clear hw2
        go_wp2_with fail
        go_ret2
        exact ⟨ret_pr H.out, HW1.out.trans (HW2.out.mono HW1.out.size)⟩
      · have H : Hid (atS P B S D n = (0, e0)) := by show _ = _; rw [atS, if_pos hd, if_neg hlt, hs, if_neg he]
        have HS := Lib.hid hs; clear hs
        have he' : (e0 != 0) = true := by simpa using he
        clear he
        go_enter Try.func13, Try.ntmps13
        go_wp2_with fail
        refine (isD_any n _).mono ?_; rintro e w' ⟨rfl, rfl⟩
        rw [hd]; clear hd
        go_wp2_with fail
        have ew : IntKind.i64.wrap (n - S) = n - S := IntWalk.i64_in _ (by omega)
        go_region_held3 (fun w' => w'.cell? ⟨g, 0, none⟩ = some (.int .i64 P) ∧ w'.cell? ⟨g, 1, none⟩ = some (.int .i64 B) ∧ w'.cell? ⟨g, 2, none⟩ = some (.int .i64 S))
          ((first | (with_reducible exact keep3 c0 c1 c2) | (exact ⟨d0, d1, d2⟩)))
          ((go_at_call 9; refine (simple_any P B (n - S) _).mono ?_; rintro e w1 ⟨rfl, hw1⟩; obtain ⟨d0, d1, d2, d3, d4⟩ := cells4 (blk_below hr ((Below.refl _ _).drew.trans hw1) hg); rw [HS.out]; have HW1 := Lib.hid ((Below.refl _ _).drew.trans hw1 : Below w.heap.size w w1); clear hw1))
        clear ew
        go_wp2_with fail
        go_ret2
        exact ⟨ret_pr H.out, HW1.out⟩
  · have H : Hid (atS P B S D n = (0, 1)) := by show _ = _; rw [atS, if_neg hd]
    go_enter Try.func13, Try.ntmps13
    go_wp2_with fail
    refine (isD_any n _).mono ?_; rintro e w' ⟨rfl, rfl⟩
    rw [Bool.eq_false_iff.2 hd]; clear hd
    go_wp2_with fail
    go_ret2
    exact ⟨ret_pr H.out, Below.refl _ _⟩

set_option maxHeartbeats 800000 in
theorem at_ref (g : Nat) (P B S D n : Int) (w : World) (hr : RunAt w g 46 P B S D) (hS : 0 ≤ S ∧ S ≤ 3652058) :
    Calls Try.prog 18 #[.pointer (some ⟨g, 0, none⟩), .int .i64 n] w fun e w' => e = .returned (pr (atS P B S D n)) ∧ Below w.heap.size w w' := by
  obtain ⟨c0, c1, c2, c3, c4⟩ := cells4 hr
  have hg := blk_lt hr
  by_cases hd : okD n = true
  · have hn := okD_yes hd
    by_cases hlt : n < S
    · have H : Hid (atS P B S D n = (0, 10)) := by show _ = _; rw [atS, if_pos hd, if_pos hlt]
      go_enter Try.func18, Try.ntmps18
      go_wp2_with fail
      refine (isDay_ref n _).mono ?_; rintro e w' ⟨rfl, rfl⟩
      rw [hd]; clear hd
      go_wp2_with fail
      go_ret2
      exact ⟨ret_pr H.out, Below.refl _ _⟩
    · obtain ⟨m, e0, hs⟩ : ∃ m e0, simpleS P B (n - S) = (m, e0) := ⟨_, _, rfl⟩
      by_cases he : e0 = 0
      · have H : Hid (atS P B S D n = addS D m) := by show _ = _; rw [atS, if_pos hd, if_neg hlt, hs, if_pos he]
        have HS := Lib.hid hs; clear hs
        subst he
        go_enter Try.func18, Try.ntmps18
        go_wp2_with fail
        refine (isDay_ref n _).mono ?_; rintro e w' ⟨rfl, rfl⟩
        rw [hd]; clear hd
        go_wp2_with fail
        have ew : IntKind.i64.wrap (n - S) = n - S := IntWalk.i64_in _ (by omega)
        go_region_held3 (fun w' => w'.cell? ⟨g, 0, none⟩ = some (.int .i64 P) ∧ w'.cell? ⟨g, 1, none⟩ = some (.int .i64 B) ∧ w'.cell? ⟨g, 2, none⟩ = some (.int .i64 S))
          ((first | (with_reducible exact keep3 c0 c1 c2) | (exact ⟨d0, d1, d2⟩)))
          ((go_at_call 10; refine (rsimple_any P B (n - S) _).mono ?_; rintro e w1 ⟨rfl, hw1⟩; obtain ⟨d0, d1, d2, d3, d4⟩ := cells4 (blk_below hr ((Below.refl _ _).drew.trans hw1) hg); rw [HS.out]; have HW1 := Lib.hid ((Below.refl _ _).drew.trans hw1 : Below w.heap.size w w1); clear hw1))
        clear ew
        go_wp2_with fail
        refine (radd_any D m _).mono ?_; rintro e w2 ⟨rfl, hw2⟩
        have HW2 := Lib.hid hw2; clear hw2
        go_wp2_with fail
        go_ret2
        exact ⟨ret_pr H.out, HW1.out.trans (HW2.out.mono HW1.out.size)⟩
      · have H : Hid (atS P B S D n = (0, e0)) := by show _ = _; rw [atS, if_pos hd, if_neg hlt, hs, if_neg he]
        have HS := Lib.hid hs; clear hs
        have he' : (e0 != 0) = true := by simpa using he
        clear he
        go_enter Try.func18, Try.ntmps18
        go_wp2_with fail
        refine (isDay_ref n _).mono ?_; rintro e w' ⟨rfl, rfl⟩
        rw [hd]; clear hd
        go_wp2_with fail
        have ew : IntKind.i64.wrap (n - S) = n - S := IntWalk.i64_in _ (by omega)
        go_region_held3 (fun w' => w'.cell? ⟨g, 0, none⟩ = some (.int .i64 P) ∧ w'.cell? ⟨g, 1, none⟩ = some (.int .i64 B) ∧ w'.cell? ⟨g, 2, none⟩ = some (.int .i64 S))
          ((first | (with_reducible exact keep3 c0 c1 c2) | (exact ⟨d0, d1, d2⟩)))
          ((go_at_call 10; refine (rsimple_any P B (n - S) _).mono ?_; rintro e w1 ⟨rfl, hw1⟩; obtain ⟨d0, d1, d2, d3, d4⟩ := cells4 (blk_below hr ((Below.refl _ _).drew.trans hw1) hg); rw [HS.out]; have HW1 := Lib.hid ((Below.refl _ _).drew.trans hw1 : Below w.heap.size w w1); clear hw1))
        clear ew
        go_wp2_with fail
        go_ret2
        exact ⟨ret_pr H.out, HW1.out⟩
  · have H : Hid (atS P B S D n = (0, 1)) := by show _ = _; rw [atS, if_neg hd]
    go_enter Try.func18, Try.ntmps18
    go_wp2_with fail
    refine (isDay_ref n _).mono ?_; rintro e w' ⟨rfl, rfl⟩
    rw [Bool.eq_false_iff.2 hd]; clear hd
    go_wp2_with fail
    go_ret2
    exact ⟨ret_pr H.out, Below.refl _ _⟩

end Go.Proofs.Ytpfcajekbkpabaa
