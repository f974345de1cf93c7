/- the reference's Run: Change, Rate; New, both. -/
import Derived.Test.YtpfcajekbkpabaaT2
namespace Go.Proofs.Ytpfcajekbkpabaa
open Go.RowKit Go
set_option linter.unusedVariables false
set_option linter.unusedSimpArgs false

set_option maxHeartbeats 800000 in
theorem change_ref (g : Nat) (s : St) (p n : Int) (w : World) (hr : RunIs w g 46 s) (hS : 0 ≤ s.S ∧ s.S ≤ 3652058) :
    Calls Try.prog 19 #[.pointer (some ⟨g, 0, none⟩), .int .i64 p, .int .i64 n] w (Stepped_ w g 46 (s.change p n)) := by
  obtain ⟨P, B, S, D⟩ := s
  have hg := blk_lt hr
  obtain ⟨m, e0, hs⟩ : ∃ m e0, atS P B S D n = (m, e0) := ⟨_, _, rfl⟩
  by_cases hp : okP p = true
  · by_cases he : e0 = 0
    · subst he
      by_cases hP : P = p
      · subst hP
        have H : Hid (St.change ⟨P, B, S, D⟩ P n = (⟨P, B, S, D⟩, 0)) := by show _ = _; simp [St.change, St.at_, hs, hp]
        have HS := Lib.hid hs; clear hs
        go_enter Try.func19, Try.ntmps19
        go_wp2_with fail
        refine (isP_ref P _).mono ?_; rintro e w' ⟨rfl, rfl⟩
        rw [hp]; clear hp
        go_wp2_with fail
        refine (at_ref g P B S D n w hr hS).mono ?_; rintro e w1 ⟨rfl, hw1⟩
        have hr1 := blk_below hr hw1 hg
        obtain ⟨d0, d1, d2, d3, d4⟩ := cells4 hr1
        rw [HS.out]
        have HR1 := Lib.hid hr1; have HW1 := Lib.hid hw1; clear hr1 hw1
        go_wp2_with fail
        go_ret
        exact ⟨by rw [H.out]; rfl, by rw [H.out]; exact HR1.out, grown_of_below HW1.out⟩
      · have H : Hid (St.change ⟨P, B, S, D⟩ p n = (⟨p, B, n, m⟩, 0)) := by show _ = _; simp [St.change, St.at_, hs, hp, hP]
        have HS := Lib.hid hs; clear hs
        have hP' : (p == P) = false := beq_eq_false_iff_ne.2 (fun h => hP h.symm)
        clear hP
        go_enter Try.func19, Try.ntmps19
        go_wp2_with fail
        refine (isP_ref p _).mono ?_; rintro e w' ⟨rfl, rfl⟩
        rw [hp]; clear hp
        go_wp2_with fail
        refine (at_ref g P B S D n w hr hS).mono ?_; rintro e w1 ⟨rfl, hw1⟩
        have hr1 := blk_below hr hw1 hg
        obtain ⟨d0, d1, d2, d3, d4⟩ := cells4 hr1
        rw [HS.out]
        have HR1 := Lib.hid hr1; have HW1 := Lib.hid hw1; clear hr1 hw1
        go_wp2_with fail
        go_ret
        refine ⟨by rw [H.out]; rfl, ?_, grown_set (grown_set (grown_set (grown_of_below HW1.out) _ _) _ _) _ _⟩
        rw [H.out]
        exact blk_set (blk_set (blk_set HR1.out 3 _) 2 _) 0 _
    · have H : Hid (St.change ⟨P, B, S, D⟩ p n = (⟨P, B, S, D⟩, e0)) := by show _ = _; simp [St.change, St.at_, hs, hp, he]
      have HS := Lib.hid hs; clear hs
      have he' : (e0 != 0) = true := by simpa using he
      clear he
      go_enter Try.func19, Try.ntmps19
      go_wp2_with fail
      refine (isP_ref p _).mono ?_; rintro e w' ⟨rfl, rfl⟩
      rw [hp]; clear hp
      go_wp2_with fail
      refine (at_ref g P B S D n w hr hS).mono ?_; rintro e w1 ⟨rfl, hw1⟩
      have hr1 := blk_below hr hw1 hg
      rw [HS.out]
      have HR1 := Lib.hid hr1; have HW1 := Lib.hid hw1; clear hr1 hw1
      go_wp2_with fail
      go_ret
      exact ⟨by rw [H.out]; rfl, by rw [H.out]; exact HR1.out, grown_of_below HW1.out⟩
  · have H := Lib.hid hp
    clear hs
    go_enter Try.func19, Try.ntmps19
    go_wp2_with fail
    refine (isP_ref p _).mono ?_; rintro e w' ⟨rfl, rfl⟩
    rw [Bool.eq_false_iff.2 hp]; clear hp
    go_wp2_with fail
    go_ret
    exact ⟨by rw [change_no H.out]; rfl, by rw [change_no H.out]; exact hr, World.grownBy.refl _ _⟩

set_option maxHeartbeats 800000 in
theorem rate_ref (g : Nat) (s : St) (p n : Int) (w : World) (hr : RunIs w g 46 s) (hS : 0 ≤ s.S ∧ s.S ≤ 3652058) :
    Calls Try.prog 20 #[.pointer (some ⟨g, 0, none⟩), .int .i64 p, .int .i64 n] w (Stepped_ w g 46 (s.rate p n)) := by
  obtain ⟨P, B, S, D⟩ := s
  have hg := blk_lt hr
  obtain ⟨m, e0, hs⟩ : ∃ m e0, atS P B S D n = (m, e0) := ⟨_, _, rfl⟩
  by_cases hp : okR p = true
  · by_cases he : e0 = 0
    · subst he
      by_cases hP : B = p
      · subst hP
        have H : Hid (St.rate ⟨P, B, S, D⟩ B n = (⟨P, B, S, D⟩, 0)) := by show _ = _; simp [St.rate, St.at_, hs, hp]
        have HS := Lib.hid hs; clear hs
        go_enter Try.func20, Try.ntmps20
        go_wp2_with fail
        refine (isR_ref B _).mono ?_; rintro e w' ⟨rfl, rfl⟩
        rw [hp]; clear hp
        go_wp2_with fail
        refine (at_ref g P B S D n w hr hS).mono ?_; rintro e w1 ⟨rfl, hw1⟩
        have hr1 := blk_below hr hw1 hg
        obtain ⟨d0, d1, d2, d3, d4⟩ := cells4 hr1
        rw [HS.out]
        have HR1 := Lib.hid hr1; have HW1 := Lib.hid hw1; clear hr1 hw1
        go_wp2_with fail
        go_ret
        exact ⟨by rw [H.out]; rfl, by rw [H.out]; exact HR1.out, grown_of_below HW1.out⟩
      · have H : Hid (St.rate ⟨P, B, S, D⟩ p n = (⟨P, p, n, m⟩, 0)) := by show _ = _; simp [St.rate, St.at_, hs, hp, hP]
        have HS := Lib.hid hs; clear hs
        have hP' : (p == B) = false := beq_eq_false_iff_ne.2 (fun h => hP h.symm)
        clear hP
        go_enter Try.func20, Try.ntmps20
        go_wp2_with fail
        refine (isR_ref p _).mono ?_; rintro e w' ⟨rfl, rfl⟩
        rw [hp]; clear hp
        go_wp2_with fail
        refine (at_ref g P B S D n w hr hS).mono ?_; rintro e w1 ⟨rfl, hw1⟩
        have hr1 := blk_below hr hw1 hg
        obtain ⟨d0, d1, d2, d3, d4⟩ := cells4 hr1
        rw [HS.out]
        have HR1 := Lib.hid hr1; have HW1 := Lib.hid hw1; clear hr1 hw1
        go_wp2_with fail
        go_ret
        refine ⟨by rw [H.out]; rfl, ?_, grown_set (grown_set (grown_set (grown_of_below HW1.out) _ _) _ _) _ _⟩
        rw [H.out]
        exact blk_set (blk_set (blk_set HR1.out 3 _) 2 _) 1 _
    · have H : Hid (St.rate ⟨P, B, S, D⟩ p n = (⟨P, B, S, D⟩, e0)) := by show _ = _; simp [St.rate, St.at_, hs, hp, he]
      have HS := Lib.hid hs; clear hs
      have he' : (e0 != 0) = true := by simpa using he
      clear he
      go_enter Try.func20, Try.ntmps20
      go_wp2_with fail
      refine (isR_ref p _).mono ?_; rintro e w' ⟨rfl, rfl⟩
      rw [hp]; clear hp
      go_wp2_with fail
      refine (at_ref g P B S D n w hr hS).mono ?_; rintro e w1 ⟨rfl, hw1⟩
      have hr1 := blk_below hr hw1 hg
      rw [HS.out]
      have HR1 := Lib.hid hr1; have HW1 := Lib.hid hw1; clear hr1 hw1
      go_wp2_with fail
      go_ret
      exact ⟨by rw [H.out]; rfl, by rw [H.out]; exact HR1.out, grown_of_below HW1.out⟩
  · have H := Lib.hid hp
    clear hs
    go_enter Try.func20, Try.ntmps20
    go_wp2_with fail
    refine (isR_ref p _).mono ?_; rintro e w' ⟨rfl, rfl⟩
    rw [Bool.eq_false_iff.2 hp]; clear hp
    go_wp2_with fail
    go_ret
    exact ⟨by rw [rate_no H.out]; rfl, by rw [rate_no H.out]; exact hr, World.grownBy.refl _ _⟩

/-- New: a run in a new block, or none. -/
def NewRes (w : World) (T : Nat) (p bp d : Int) (e : Ending) (w' : World) : Prop :=
  (okP p = true ∧ okR bp = true ∧ okD d = true ∧ (∃ g, e = .returned (.tuple #[.pointer (some ⟨g, 0, none⟩), .int .i64 0]) ∧ w.heap.size ≤ g ∧ RunAt w' g T p bp d 0) ∧ Below w.heap.size w w') ∨
  (¬ (okP p = true ∧ okR bp = true ∧ okD d = true) ∧ e = .returned (.tuple #[.pointer none, .int .i64 1]) ∧ Below w.heap.size w w')

theorem new_any (p bp d : Int) (w : World) : Calls Try.prog 12 #[.int .i64 p, .int .i64 bp, .int .i64 d] w (NewRes w 61 p bp d) := by
  by_cases hp : okP p = true
  · by_cases hb : okR bp = true
    · by_cases hd : okD d = true
      · have H1 := Lib.hid hp; have H2 := Lib.hid hb; have H3 := Lib.hid hd
        go_enter Try.func12, Try.ntmps12
        go_wp2_with fail
        refine (isP_any p _).mono ?_; rintro e w' ⟨rfl, rfl⟩
        rw [hp]; clear hp
        go_wp2_with fail
        refine (isR_any bp _).mono ?_; rintro e w' ⟨rfl, rfl⟩
        rw [hb]; clear hb
        go_wp2_with fail
        refine (isD_any d _).mono ?_; rintro e w' ⟨rfl, rfl⟩
        rw [hd]; clear hd
        go_wp2_with fail
        go_ret2
        exact .inl ⟨H1.out, H2.out, H3.out, ⟨_, rfl, Nat.le_refl _, blk_new _ _ rfl⟩, (by repeat' (first | (with_reducible exact Below.refl _ _) | (with_reducible refine Below.alloc ?_ ?_ _) | (with_reducible refine below_drewN ?_ _) | (with_reducible refine Below.drew ?_) | (with_reducible refine Below.setCell ?_ ?_ _) | (with_reducible refine Below.trans ?_ (Below.mono HW0.out ?_)) | (with_reducible refine Below.trans ?_ (Below.mono HW1.out ?_)) | (with_reducible refine Below.trans ?_ (Below.mono HW2.out ?_)) | (with_reducible refine Below.trans ?_ (Below.mono HW3.out ?_)) | (with_reducible refine Below.trans ?_ (Below.mono HW4.out ?_)) | (with_reducible refine Below.trans ?_ (Below.mono HW5.out ?_)) | (with_reducible refine Below.trans ?_ (Below.mono HW6.out ?_)) | (with_reducible refine Below.trans ?_ (Below.mono HW7.out ?_)) | (with_reducible exact Nat.le_refl _) | omega | (simp only [World.size_alloc, World.size_setCell, World.size_drew, size_drewN]; omega) | (simp; done) | (simp; omega)))⟩
      · have H3 := Lib.hid hd
        go_enter Try.func12, Try.ntmps12
        go_wp2_with fail
        refine (isP_any p _).mono ?_; rintro e w' ⟨rfl, rfl⟩
        rw [hp]; clear hp
        go_wp2_with fail
        refine (isR_any bp _).mono ?_; rintro e w' ⟨rfl, rfl⟩
        rw [hb]; clear hb
        go_wp2_with fail
        refine (isD_any d _).mono ?_; rintro e w' ⟨rfl, rfl⟩
        rw [Bool.eq_false_iff.2 hd]; clear hd
        go_wp2_with fail
        go_ret2
        exact .inr ⟨fun h => H3.out h.2.2, rfl, Below.refl _ _⟩
    · have H3 := Lib.hid hb
      go_enter Try.func12, Try.ntmps12
      go_wp2_with fail
      refine (isP_any p _).mono ?_; rintro e w' ⟨rfl, rfl⟩
      rw [hp]; clear hp
      go_wp2_with fail
      refine (isR_any bp _).mono ?_; rintro e w' ⟨rfl, rfl⟩
      rw [Bool.eq_false_iff.2 hb]; clear hb
      go_wp2_with fail
      go_ret2
      exact .inr ⟨fun h => H3.out h.2.1, rfl, Below.refl _ _⟩
  · have H3 := Lib.hid hp
    go_enter Try.func12, Try.ntmps12
    go_wp2_with fail
    refine (isP_any p _).mono ?_; rintro e w' ⟨rfl, rfl⟩
    rw [Bool.eq_false_iff.2 hp]; clear hp
    go_wp2_with fail
    go_ret2
    exact .inr ⟨fun h => H3.out h.1, rfl, Below.refl _ _⟩

theorem new_ref (p bp d : Int) (w : World) : Calls Try.prog 17 #[.int .i64 p, .int .i64 bp, .int .i64 d] w (NewRes w 46 p bp d) := by
  by_cases h : okP p = true ∧ okR bp = true ∧ okD d = true
  · have H := Lib.hid h
    obtain ⟨hp, hb, hd⟩ := h
    go_enter Try.func17, Try.ntmps17
    go_wp2_with fail
    refine (isP_ref p _).mono ?_; rintro e w' ⟨rfl, rfl⟩
    rw [hp]; clear hp
    go_wp2_with fail
    refine (isR_ref bp _).mono ?_; rintro e w' ⟨rfl, rfl⟩
    rw [hb]; clear hb
    go_wp2_with fail
    refine (isDay_ref d _).mono ?_; rintro e w' ⟨rfl, rfl⟩
    rw [hd]; clear hd
    go_wp2_with fail
    go_ret2
    exact .inl ⟨H.out.1, H.out.2.1, H.out.2.2, ⟨_, rfl, Nat.le_refl _, blk_new _ _ rfl⟩, (by repeat' (first | (with_reducible exact Below.refl _ _) | (with_reducible refine Below.alloc ?_ ?_ _) | (with_reducible refine below_drewN ?_ _) | (with_reducible refine Below.drew ?_) | (with_reducible refine Below.setCell ?_ ?_ _) | (with_reducible refine Below.trans ?_ (Below.mono HW0.out ?_)) | (with_reducible refine Below.trans ?_ (Below.mono HW1.out ?_)) | (with_reducible refine Below.trans ?_ (Below.mono HW2.out ?_)) | (with_reducible refine Below.trans ?_ (Below.mono HW3.out ?_)) | (with_reducible refine Below.trans ?_ (Below.mono HW4.out ?_)) | (with_reducible refine Below.trans ?_ (Below.mono HW5.out ?_)) | (with_reducible refine Below.trans ?_ (Below.mono HW6.out ?_)) | (with_reducible refine Below.trans ?_ (Below.mono HW7.out ?_)) | (with_reducible exact Nat.le_refl _) | omega | (simp only [World.size_alloc, World.size_setCell, World.size_drew, size_drewN]; omega) | (simp; done) | (simp; omega)))⟩
  · have H := Lib.hid h
    have hn : (okP p && (okR bp && okD d)) = false := by
      cases hp : okP p <;> cases hb : okR bp <;> cases hd : okD d <;> simp_all
    clear h
    rcases Bool.eq_false_or_eq_true (okP p) with hp | hp <;> rcases Bool.eq_false_or_eq_true (okR bp) with hb | hb <;> rcases Bool.eq_false_or_eq_true (okD d) with hd | hd <;> rw [hp, hb, hd] at hn <;> (try (exact absurd hn (by decide)))
    all_goals
      clear hn
      go_enter Try.func17, Try.ntmps17
      go_wp2_with fail
      refine (isP_ref p _).mono ?_; rintro e w' ⟨rfl, rfl⟩
      rw [hp]
      go_wp2_with fail
      refine (isR_ref bp _).mono ?_; rintro e w' ⟨rfl, rfl⟩
      rw [hb]
      go_wp2_with fail
      refine (isDay_ref d _).mono ?_; rintro e w' ⟨rfl, rfl⟩
      rw [hd]
      clear hp hb hd
      go_wp2_with fail
      go_ret2
      exact .inr ⟨H.out, rfl, Below.refl _ _⟩
end Go.Proofs.Ytpfcajekbkpabaa
