/- Simple, both sides; the walks of AccrueSimple, AccrueRises, AccrueYears. -/
import Derived.Test.YtpfcajekbkpabaaS
namespace Go.Proofs.Ytpfcajekbkpabaa
open Go.RowKit Go
set_option linter.unusedVariables false
set_option linter.unusedSimpArgs false

def simpleS (p bp d : Int) : Int × Int := if okP p && okR bp && okD d then told (p * (bp * d) / 3650000) else (0, 1)
theorem rate_days {bp d : Int} (hb : 0 ≤ bp ∧ bp ≤ 100000) (hd : 0 ≤ d ∧ d ≤ 3652058) : 0 ≤ bp * d ∧ bp * d ≤ 365205800000 := by
  refine ⟨Int.mul_nonneg hb.1 hd.1, Int.le_trans (Int.mul_le_mul_of_nonneg_right hb.2 hd.1) ?_⟩
  omega
theorem simple_mulDiv {p bp d : Int} (hp : okP p = true) (hb : okR bp = true) (hd : okD d = true) : mulDivS p (bp * d) 3650000 = simpleS p bp d := by
  have h1 := okP_yes hp; have h2 := rate_days (okR_yes hb) (okD_yes hd)
  have a1 : amt p = true := by simp [amt]; omega
  have a2 : amt (bp * d) = true := by simp [amt]; omega
  have a3 : amt 3650000 = true := by decide
  rw [mulDivS, simpleS, hp, hb, hd, a1, a2, a3]; rfl
theorem simple_fine {p x : Int} (hp : 0 ≤ p) (hx : 0 ≤ x) (c : Int) : fine p x c := .inl (Int.mul_nonneg hp hx)

set_option maxHeartbeats 400000 in
theorem simple_any (p bp d : Int) (w : World) : Calls Try.prog 9 #[.int .i64 p, .int .i64 bp, .int .i64 d] w fun e w' => e = .returned (pr (simpleS p bp d)) ∧ Below w.heap.size w w' := by
  by_cases hp : okP p = true
  · by_cases hb : okR bp = true
    · by_cases hd : okD d = true
      · have h1 := okP_yes hp
        have h2 := rate_days (okR_yes hb) (okD_yes hd)
        have H := Lib.hid (simple_mulDiv hp hb hd)
        go_enter Try.func9, Try.ntmps9
        go_wp2_with fail
        refine (isP_any p _).mono ?_; rintro e w' ⟨rfl, rfl⟩
        rw [hp]; clear hp
        go_wp2_with fail
        refine (isR_any bp _).mono ?_; rintro e w' ⟨rfl, rfl⟩
        rw [hb]; clear hb
        go_wp2_with fail
        refine (isD_any d _).mono ?_; rintro e w' ⟨rfl, rfl⟩
        rw [hd]; clear hd
        go_wp2_with fail
        refine (mulDiv_any p (bp * d) 3650000 _ (simple_fine h1.1 h2.1 _)).mono ?_; rintro e w1 ⟨rfl, hw1⟩; obtain ⟨hc1, hf1⟩ := bcell hw1; have hz1 := hw1.size; (try simp only [World.size_alloc, World.size_setCell, World.size_drew, size_drewN, Nat.add_one_le_iff] at hz1); (try have hy1 : w.heap.size < w1.heap.size := by omega); (try have hx1 : w.heap.size + 1 < w1.heap.size := by omega); have HW1 := Lib.hid hw1; clear hw1
        go_wp2_with fail
        go_ret2
        exact ⟨ret_pr (by rw [H.out]), (by repeat' (first | (with_reducible exact Below.refl _ _) | (with_reducible refine Below.alloc ?_ ?_ _) | (with_reducible refine below_drewN ?_ _) | (with_reducible refine Below.drew ?_) | (with_reducible refine Below.setCell ?_ ?_ _) | (with_reducible refine Below.trans ?_ (Below.mono HW0.out ?_)) | (with_reducible refine Below.trans ?_ (Below.mono HW1.out ?_)) | (with_reducible refine Below.trans ?_ (Below.mono HW2.out ?_)) | (with_reducible refine Below.trans ?_ (Below.mono HW3.out ?_)) | (with_reducible refine Below.trans ?_ (Below.mono HW4.out ?_)) | (with_reducible refine Below.trans ?_ (Below.mono HW5.out ?_)) | (with_reducible refine Below.trans ?_ (Below.mono HW6.out ?_)) | (with_reducible refine Below.trans ?_ (Below.mono HW7.out ?_)) | (with_reducible exact Nat.le_refl _) | omega | (simp only [World.size_alloc, World.size_setCell, World.size_drew, size_drewN]; omega) | (simp; done) | (simp; omega)))⟩
      · have H : Hid (simpleS p bp d = (0, 1)) := by show _ = _; rw [simpleS, if_neg (by simp [hd])]
        go_enter Try.func9, Try.ntmps9
        go_wp2_with fail
        refine (isP_any p _).mono ?_; rintro e w' ⟨rfl, rfl⟩
        rw [hp]; clear hp
        go_wp2_with fail
        refine (isR_any bp _).mono ?_; rintro e w' ⟨rfl, rfl⟩
        rw [hb]; clear hb
        go_wp2_with fail
        refine (isD_any d _).mono ?_; rintro e w' ⟨rfl, rfl⟩
        rw [Bool.eq_false_iff.2 hd]; clear hd
        go_wp2_with fail
        go_ret2
        exact ⟨ret_pr H.out, Below.refl _ _⟩
    · have H : Hid (simpleS p bp d = (0, 1)) := by show _ = _; rw [simpleS, if_neg (by simp [hb])]
      go_enter Try.func9, Try.ntmps9
      go_wp2_with fail
      refine (isP_any p _).mono ?_; rintro e w' ⟨rfl, rfl⟩
      rw [hp]; clear hp
      go_wp2_with fail
      refine (isR_any bp _).mono ?_; rintro e w' ⟨rfl, rfl⟩
      rw [Bool.eq_false_iff.2 hb]; clear hb
      go_wp2_with fail
      go_ret2
      exact ⟨ret_pr H.out, Below.refl _ _⟩
  · have H : Hid (simpleS p bp d = (0, 1)) := by show _ = _; rw [simpleS, if_neg (by simp [hp])]
    go_enter Try.func9, Try.ntmps9
    go_wp2_with fail
    refine (isP_any p _).mono ?_; rintro e w' ⟨rfl, rfl⟩
    rw [Bool.eq_false_iff.2 hp]; clear hp
    go_wp2_with fail
    go_ret2
    exact ⟨ret_pr H.out, Below.refl _ _⟩

theorem DivRes.pre {n : Bool} {m c : Int} {w0 w' : World} {e : Ending} (h : DivRes n m c w0 e w') : ∃ n' q, e = .returned (.tuple #[wd n' q, .int .i64 (wz n m % c)]) ∧ 0 ≤ q ∧ q ≤ m ∧ Hid (wz n' q = wz n m / c) ∧ Below w0.heap.size w0 w' := by
  obtain ⟨⟨n', q, h1, h2, h3, h4⟩, h5⟩ := h
  exact ⟨n', q, h1, h2, h3, h4, h5⟩

theorem of_nat (a : Int) (w : World) (h0 : 0 ≤ a) (ha : a ≤ 9223372036854775807) : Calls Try.prog 28 #[.int .i64 a] w fun e w' => e = .returned (wd false a) ∧ Below w.heap.size w w' := by
  have := of_any a w (by omega)
  rwa [decide_eq_false (by omega), show (a.natAbs : Int) = a by omega] at this

set_option maxHeartbeats 800000 in
theorem rsimple_any (p bp d : Int) (w : World) : Calls Try.prog 10 #[.int .i64 p, .int .i64 bp, .int .i64 d] w fun e w' => e = .returned (pr (simpleS p bp d)) ∧ Below w.heap.size w w' := by
  by_cases hp : okP p = true
  · by_cases hb : okR bp = true
    · by_cases hd : okD d = true
      · have h1 := okP_yes hp
        have h2 := rate_days (okR_yes hb) (okD_yes hd)
        have h3 := okD_yes hd
        have H : Hid (simpleS p bp d = told (p * (bp * d) / 3650000)) := by show _ = _; rw [simpleS, hp, hb, hd]; rfl
        have h4 : 0 ≤ p * (bp * d) := Int.mul_nonneg h1.1 h2.1
        have h5 : p * (bp * d) < big := by
          have : p * (bp * d) ≤ 4611686018427387904 * 365205800000 := Int.le_trans (Int.mul_le_mul_of_nonneg_left h2.2 h1.1) (Int.mul_le_mul_of_nonneg_right h1.2 (by omega))
          unfold big; omega
        clear hd
        go_enter Try.func10, Try.ntmps10
        go_wp2_with fail
        refine (isP_ref p _).mono ?_; rintro e w' ⟨rfl, rfl⟩
        rw [hp]; clear hp
        go_wp2_with fail
        refine (isR_ref bp _).mono ?_; rintro e w' ⟨rfl, rfl⟩
        rw [hb]; clear hb
        go_wp2_with fail
        refine (of_nat p _ h1.1 (by omega)).mono ?_; rintro e w1 ⟨rfl, hw1⟩; obtain ⟨hc1, hf1⟩ := bcell hw1; have hz1 := hw1.size; (try simp only [World.size_alloc, World.size_setCell, World.size_drew, size_drewN, Nat.add_one_le_iff] at hz1); (try have hy1 : w.heap.size < w1.heap.size := by omega); (try have hx1 : w.heap.size + 1 < w1.heap.size := by omega); have HW1 := Lib.hid hw1; clear hw1
        go_wp2_with fail
        refine (of_nat (bp * d) _ h2.1 (by omega)).mono ?_; rintro e w2 ⟨rfl, hw2⟩; obtain ⟨hc2, hf2⟩ := bcell hw2; have hz2 := hw2.size; (try simp only [World.size_alloc, World.size_setCell, World.size_drew, size_drewN, Nat.add_one_le_iff] at hz2); (try have hy2 : w.heap.size < w2.heap.size := by omega); (try have hx2 : w.heap.size + 1 < w2.heap.size := by omega); have HW2 := Lib.hid hw2; clear hw2
        go_wp2_with fail
        refine (wmul_any false false p (bp * d) _ ⟨h1.1, by omega⟩ ⟨h2.1, by omega⟩).mono ?_; rintro e w3 ⟨rfl, hw3⟩; obtain ⟨hc3, hf3⟩ := bcell hw3; have hz3 := hw3.size; (try simp only [World.size_alloc, World.size_setCell, World.size_drew, size_drewN, Nat.add_one_le_iff] at hz3); (try have hy3 : w.heap.size < w3.heap.size := by omega); (try have hx3 : w.heap.size + 1 < w3.heap.size := by omega); have HW3 := Lib.hid hw3; clear hw3
        go_wp2_with fail
        refine (wdiv_any false (p * (bp * d)) 3650000 _ h4 h5 (by omega) (by omega)).mono ?_
        intro e w4 h6; obtain ⟨n', q, rfl, hq0, hq1, hq2, hw4⟩ := DivRes.pre h6; clear h6; obtain ⟨hc4, hf4⟩ := bcell hw4; have hz4 := hw4.size; (try simp only [World.size_alloc, World.size_setCell, World.size_drew, size_drewN, Nat.add_one_le_iff] at hz4); (try have hy4 : w.heap.size < w4.heap.size := by omega); (try have hx4 : w.heap.size + 1 < w4.heap.size := by omega); have HW4 := Lib.hid hw4; clear hw4
        go_wp2_with fail
        refine (wtold_any n' q _ hq0 (by omega)).mono ?_; rintro e w5 ⟨rfl, hw5⟩; obtain ⟨hc5, hf5⟩ := bcell hw5; have hz5 := hw5.size; (try simp only [World.size_alloc, World.size_setCell, World.size_drew, size_drewN, Nat.add_one_le_iff] at hz5); (try have hy5 : w.heap.size < w5.heap.size := by omega); (try have hx5 : w.heap.size + 1 < w5.heap.size := by omega); have HW5 := Lib.hid hw5; clear hw5
        go_wp2_with fail
        go_ret2
        exact ⟨ret_pr (by rw [H.out, hq2.out]; rfl), (by repeat' (first | (with_reducible exact Below.refl _ _) | (with_reducible refine Below.alloc ?_ ?_ _) | (with_reducible refine below_drewN ?_ _) | (with_reducible refine Below.drew ?_) | (with_reducible refine Below.setCell ?_ ?_ _) | (with_reducible refine Below.trans ?_ (Below.mono HW0.out ?_)) | (with_reducible refine Below.trans ?_ (Below.mono HW1.out ?_)) | (with_reducible refine Below.trans ?_ (Below.mono HW2.out ?_)) | (with_reducible refine Below.trans ?_ (Below.mono HW3.out ?_)) | (with_reducible refine Below.trans ?_ (Below.mono HW4.out ?_)) | (with_reducible refine Below.trans ?_ (Below.mono HW5.out ?_)) | (with_reducible refine Below.trans ?_ (Below.mono HW6.out ?_)) | (with_reducible refine Below.trans ?_ (Below.mono HW7.out ?_)) | (with_reducible exact Nat.le_refl _) | omega | (simp only [World.size_alloc, World.size_setCell, World.size_drew, size_drewN]; omega) | (simp; done) | (simp; omega)))⟩
      · have H : Hid (simpleS p bp d = (0, 1)) := by show _ = _; rw [simpleS, if_neg (by simp [hd])]
        have h3 := okD_no hd
        clear hd
        rcases h3 with h3 | h3
        all_goals
          go_enter Try.func10, Try.ntmps10
          go_wp2_with fail
          refine (isP_ref p _).mono ?_; rintro e w' ⟨rfl, rfl⟩
          rw [hp]
          go_wp2_with fail
          refine (isR_ref bp _).mono ?_; rintro e w' ⟨rfl, rfl⟩
          rw [hb]
          go_wp2_with fail
          go_ret2
          exact ⟨ret_pr H.out, Below.refl _ _⟩
    · have H : Hid (simpleS p bp d = (0, 1)) := by show _ = _; rw [simpleS, if_neg (by simp [hb])]
      go_enter Try.func10, Try.ntmps10
      go_wp2_with fail
      refine (isP_ref p _).mono ?_; rintro e w' ⟨rfl, rfl⟩
      rw [hp]; clear hp
      go_wp2_with fail
      refine (isR_ref bp _).mono ?_; rintro e w' ⟨rfl, rfl⟩
      rw [Bool.eq_false_iff.2 hb]; clear hb
      go_wp2_with fail
      go_ret2
      exact ⟨ret_pr H.out, Below.refl _ _⟩
  · have H : Hid (simpleS p bp d = (0, 1)) := by show _ = _; rw [simpleS, if_neg (by simp [hp])]
    go_enter Try.func10, Try.ntmps10
    go_wp2_with fail
    refine (isP_ref p _).mono ?_; rintro e w' ⟨rfl, rfl⟩
    rw [Bool.eq_false_iff.2 hp]; clear hp
    go_wp2_with fail
    refine (isR_ref bp _).mono ?_; rintro e w' ⟨rfl, rfl⟩
    go_wp2_with fail
    go_ret2
    exact ⟨ret_pr H.out, Below.refl _ _⟩
end Go.Proofs.Ytpfcajekbkpabaa
