/- accrue.Run and the reference's: New, Change, Rate. -/
import Derived.Test.YtpfcajekbkpabaaT
namespace Go.Proofs.Ytpfcajekbkpabaa
open Go.RowKit Go
set_option linter.unusedVariables false
set_option linter.unusedSimpArgs false

/-- A run's state: principal, rate, since, done. -/
structure St where
  P : Int
  B : Int
  S : Int
  D : Int

@[reducible] def RunIs (w : World) (g T : Nat) (s : St) : Prop := RunAt w g T s.P s.B s.S s.D
def St.at_ (s : St) (n : Int) : Int × Int := atS s.P s.B s.S s.D n
def St.change (s : St) (p n : Int) : St × Int := if okP p then (if (s.at_ n).2 = 0 then (if s.P = p then (s, 0) else (⟨p, s.B, n, (s.at_ n).1⟩, 0)) else (s, (s.at_ n).2)) else (s, 1)
def St.rate (s : St) (b n : Int) : St × Int := if okR b then (if (s.at_ n).2 = 0 then (if s.B = b then (s, 0) else (⟨s.P, b, n, (s.at_ n).1⟩, 0)) else (s, (s.at_ n).2)) else (s, 1)

/-- What a step on the run in block g leaves. -/
def Stepped_ (w : World) (g T : Nat) (r : St × Int) (e : Ending) (w' : World) : Prop := e = .returned (.int .i64 r.2) ∧ RunIs w' g T r.1 ∧ w.grownBy w' (some g)

theorem grown_of_below {w w' : World} {g : Nat} (h : Below w.heap.size w w') : w.grownBy w' (some g) := ⟨h.os, h.tape, h.output, h.size, fun k hk _ => h.block k hk⟩
theorem grown_set {w w' : World} {g : Nat} (h : w.grownBy w' (some g)) (i : Nat) (u : Value) : w.grownBy (w'.setCell ⟨g, i, none⟩ u) (some g) :=
  ⟨h.os, h.tape, h.output, by simpa [World.setCell] using h.size, fun k hk hne => (Below.heap_setCell w' ⟨g, i, none⟩ u k (fun e => hne (by rw [e]))).trans (h.block k hk hne)⟩

set_option maxHeartbeats 800000 in
theorem set64_any (g : Nat) (s : St) (p n : Int) (w : World) (hr : RunIs w g 61 s) (hS : 0 ≤ s.S ∧ s.S ≤ 3652058) (hp : okP p = true) :
    Calls Try.prog 35 #[.func (.func 13) #[.pointer (some ⟨g, 0, none⟩)] #[], .pointer (some ⟨g, 0, none⟩), .pointer (some ⟨g, 0, none⟩), .int .i64 p, .int .i64 n] w (Stepped_ w g 61 (s.change p n)) := by
  obtain ⟨P, B, S, D⟩ := s
  have hg := blk_lt hr
  obtain ⟨m, e0, hs⟩ : ∃ m e0, atS P B S D n = (m, e0) := ⟨_, _, rfl⟩
  by_cases he : e0 = 0
  · subst he
    by_cases hP : P = p
    · subst hP
      have H : Hid (St.change ⟨P, B, S, D⟩ P n = (⟨P, B, S, D⟩, 0)) := by show _ = _; simp [St.change, St.at_, hs, hp]
      have HS := Lib.hid hs; clear hs
      go_enter Try.func35, Try.ntmps35
      go_wp2_with fail
      refine (at_any g P B S D n w hr hS).mono ?_; rintro e w1 ⟨rfl, hw1⟩
      have hr1 := blk_below hr hw1 hg
      obtain ⟨d0, d1, d2, d3, d4⟩ := cells4 hr1
      rw [HS.out]
      have HR1 := Lib.hid hr1; have HW1 := Lib.hid hw1; clear hr1 hw1
      go_wp2_with fail
      go_ret
      exact ⟨by rw [H.out]; rfl, by rw [H.out]; exact HR1.out, grown_of_below HW1.out⟩
    · have H : Hid (St.change ⟨P, B, S, D⟩ p n = (⟨p, B, n, m⟩, 0)) := by show _ = _; simp [St.change, St.at_, hs, hp, hP]
      have HS := Lib.hid hs; clear hs
      have hP' : (P == p) = false := by simpa using hP
      clear hP
      go_enter Try.func35, Try.ntmps35
      go_wp2_with fail
      refine (at_any g P B S D n w hr hS).mono ?_; rintro e w1 ⟨rfl, hw1⟩
      have hr1 := blk_below hr hw1 hg
      obtain ⟨d0, d1, d2, d3, d4⟩ := cells4 hr1
      rw [HS.out]
      have HR1 := Lib.hid hr1; have HW1 := Lib.hid hw1; clear hr1 hw1
      go_wp2_with fail
      go_ret
      refine ⟨by rw [H.out]; rfl, ?_, grown_set (grown_set (grown_set (grown_of_below HW1.out) _ _) _ _) _ _⟩
      rw [H.out]
      exact blk_set (blk_set (blk_set HR1.out 0 _) 3 _) 2 _
  · have H : Hid (St.change ⟨P, B, S, D⟩ p n = (⟨P, B, S, D⟩, e0)) := by show _ = _; simp [St.change, St.at_, hs, hp, he]
    have HS := Lib.hid hs; clear hs
    have he' : (e0 != 0) = true := by simpa using he
    clear he
    go_enter Try.func35, Try.ntmps35
    go_wp2_with fail
    refine (at_any g P B S D n w hr hS).mono ?_; rintro e w1 ⟨rfl, hw1⟩
    have hr1 := blk_below hr hw1 hg
    rw [HS.out]
    have HR1 := Lib.hid hr1; have HW1 := Lib.hid hw1; clear hr1 hw1
    go_wp2_with fail
    go_ret
    exact ⟨by rw [H.out]; rfl, by rw [H.out]; exact HR1.out, grown_of_below HW1.out⟩
set_option maxHeartbeats 800000 in
theorem setint_any (g : Nat) (s : St) (b n : Int) (w : World) (hr : RunIs w g 61 s) (hS : 0 ≤ s.S ∧ s.S ≤ 3652058) (hp : okR b = true) :
    Calls Try.prog 36 #[.func (.func 13) #[.pointer (some ⟨g, 0, none⟩)] #[], .pointer (some ⟨g, 0, none⟩), .pointer (some ⟨g, 1, none⟩), .int .i64 b, .int .i64 n] w (Stepped_ w g 61 (s.rate b n)) := by
  obtain ⟨P, B, S, D⟩ := s
  have hg := blk_lt hr
  obtain ⟨m, e0, hs⟩ : ∃ m e0, atS P B S D n = (m, e0) := ⟨_, _, rfl⟩
  by_cases he : e0 = 0
  · subst he
    by_cases hP : B = b
    · subst hP
      have H : Hid (St.rate ⟨P, B, S, D⟩ B n = (⟨P, B, S, D⟩, 0)) := by show _ = _; simp [St.rate, St.at_, hs, hp]
      have HS := Lib.hid hs; clear hs
      go_enter Try.func36, Try.ntmps36
      go_wp2_with fail
      refine (at_any g P B S D n w hr hS).mono ?_; rintro e w1 ⟨rfl, hw1⟩
      have hr1 := blk_below hr hw1 hg
      obtain ⟨d0, d1, d2, d3, d4⟩ := cells4 hr1
      rw [HS.out]
      have HR1 := Lib.hid hr1; have HW1 := Lib.hid hw1; clear hr1 hw1
      go_wp2_with fail
      go_ret
      exact ⟨by rw [H.out]; rfl, by rw [H.out]; exact HR1.out, grown_of_below HW1.out⟩
    · have H : Hid (St.rate ⟨P, B, S, D⟩ b n = (⟨P, b, n, m⟩, 0)) := by show _ = _; simp [St.rate, St.at_, hs, hp, hP]
      have HS := Lib.hid hs; clear hs
      have hP' : (B == b) = false := by simpa using hP
      clear hP
      go_enter Try.func36, Try.ntmps36
      go_wp2_with fail
      refine (at_any g P B S D n w hr hS).mono ?_; rintro e w1 ⟨rfl, hw1⟩
      have hr1 := blk_below hr hw1 hg
      obtain ⟨d0, d1, d2, d3, d4⟩ := cells4 hr1
      rw [HS.out]
      have HR1 := Lib.hid hr1; have HW1 := Lib.hid hw1; clear hr1 hw1
      go_wp2_with fail
      go_ret
      refine ⟨by rw [H.out]; rfl, ?_, grown_set (grown_set (grown_set (grown_of_below HW1.out) _ _) _ _) _ _⟩
      rw [H.out]
      exact blk_set (blk_set (blk_set HR1.out 1 _) 3 _) 2 _
  · have H : Hid (St.rate ⟨P, B, S, D⟩ b n = (⟨P, B, S, D⟩, e0)) := by show _ = _; simp [St.rate, St.at_, hs, hp, he]
    have HS := Lib.hid hs; clear hs
    have he' : (e0 != 0) = true := by simpa using he
    clear he
    go_enter Try.func36, Try.ntmps36
    go_wp2_with fail
    refine (at_any g P B S D n w hr hS).mono ?_; rintro e w1 ⟨rfl, hw1⟩
    have hr1 := blk_below hr hw1 hg
    rw [HS.out]
    have HR1 := Lib.hid hr1; have HW1 := Lib.hid hw1; clear hr1 hw1
    go_wp2_with fail
    go_ret
    exact ⟨by rw [H.out]; rfl, by rw [H.out]; exact HR1.out, grown_of_below HW1.out⟩

theorem grown_trans_ {a b c : World} {r : Option Nat} (h : a.grownBy b r) (k : b.grownBy c r) : a.grownBy c r :=
  ⟨k.os.trans h.os, k.tape.trans h.tape, k.output.trans h.output, Nat.le_trans h.size k.size, fun i hi hn => (k.block i (Nat.lt_of_lt_of_le hi h.size) hn).trans (h.block i hi hn)⟩
theorem change_no {s : St} {p n : Int} (h : ¬ okP p = true) : s.change p n = (s, 1) := by rw [St.change, if_neg h]
theorem rate_no {s : St} {p n : Int} (h : ¬ okR p = true) : s.rate p n = (s, 1) := by rw [St.rate, if_neg h]

theorem change_any (g : Nat) (s : St) (p n : Int) (w : World) (hr : RunIs w g 61 s) (hS : 0 ≤ s.S ∧ s.S ≤ 3652058) :
    Calls Try.prog 14 #[.pointer (some ⟨g, 0, none⟩), .int .i64 p, .int .i64 n] w (Stepped_ w g 61 (s.change p n)) := by
  by_cases h : okP p = true
  · have H := Lib.hid h
    go_enter Try.func14, Try.ntmps14
    go_wp2_with fail
    refine (isP_any p _).mono ?_; rintro e w' ⟨rfl, rfl⟩
    rw [h]; clear h
    go_wp2_with fail
    refine (set64_any g s p n w hr hS H.out).mono ?_; rintro e w1 ⟨rfl, h1, h2⟩
    have H1 := Lib.hid h1; have H2 := Lib.hid h2; clear h1 h2
    go_wp2_with fail
    go_ret
    exact ⟨rfl, H1.out, H2.out⟩
  · have H := Lib.hid h
    go_enter Try.func14, Try.ntmps14
    go_wp2_with fail
    refine (isP_any p _).mono ?_; rintro e w' ⟨rfl, rfl⟩
    rw [Bool.eq_false_iff.2 h]; clear h
    go_wp2_with fail
    go_ret
    exact ⟨by rw [change_no H.out]; rfl, by rw [change_no H.out]; exact hr, World.grownBy.refl _ _⟩

theorem rate_any (g : Nat) (s : St) (p n : Int) (w : World) (hr : RunIs w g 61 s) (hS : 0 ≤ s.S ∧ s.S ≤ 3652058) :
    Calls Try.prog 15 #[.pointer (some ⟨g, 0, none⟩), .int .i64 p, .int .i64 n] w (Stepped_ w g 61 (s.rate p n)) := by
  by_cases h : okR p = true
  · have H := Lib.hid h
    go_enter Try.func15, Try.ntmps15
    go_wp2_with fail
    refine (isR_any p _).mono ?_; rintro e w' ⟨rfl, rfl⟩
    rw [h]; clear h
    go_wp2_with fail
    refine (setint_any g s p n w hr hS H.out).mono ?_; rintro e w1 ⟨rfl, h1, h2⟩
    have H1 := Lib.hid h1; have H2 := Lib.hid h2; clear h1 h2
    go_wp2_with fail
    go_ret
    exact ⟨rfl, H1.out, H2.out⟩
  · have H := Lib.hid h
    go_enter Try.func15, Try.ntmps15
    go_wp2_with fail
    refine (isR_any p _).mono ?_; rintro e w' ⟨rfl, rfl⟩
    rw [Bool.eq_false_iff.2 h]; clear h
    go_wp2_with fail
    go_ret
    exact ⟨by rw [rate_no H.out]; rfl, by rw [rate_no H.out]; exact hr, World.grownBy.refl _ _⟩
end Go.Proofs.Ytpfcajekbkpabaa
