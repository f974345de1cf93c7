/- Mul, both sides. -/
import Derived.Test.YtbjjgnaojoaoiaaGreatK4
import Derived.Test.YtbjjgnaojoaoiaaGreatK0
namespace Go.Proofs.YtbjjgnaojoaoiaaGreat
open Go.RowKit Go
set_option linter.unusedVariables false
set_option linter.unusedSimpArgs false

def mulS (a b : Int) : Int × Int := if amt a && amt b then told (a * b) else (0, 1)
theorem amt_abs2 {a : Int} (h : amt a = true) : 0 ≤ (a.natAbs : Int) ∧ (a.natAbs : Int) ≤ 18446744073709551615 := by have := amt_yes h; omega
theorem wz_mul (a b : Int) : wz (decide (a < 0) != decide (b < 0)) (a.natAbs * b.natAbs) = a * b := by
  by_cases h : a < 0 <;> by_cases g : b < 0 <;> simp [wz, h, g]
  · rw [show (a.natAbs : Int) = -a by omega, show (b.natAbs : Int) = -b by omega, Int.neg_mul_neg]
  · rw [show (a.natAbs : Int) = -a by omega, show (b.natAbs : Int) = b by omega, Int.neg_mul, Int.neg_neg]
  · rw [show (a.natAbs : Int) = a by omega, show (b.natAbs : Int) = -b by omega, Int.mul_neg, Int.neg_neg]
  · rw [show (a.natAbs : Int) = a by omega, show (b.natAbs : Int) = b by omega]
theorem mul_big {a b : Int} (ha : amt a = true) (hb : amt b = true) : 0 ≤ (a.natAbs : Int) * b.natAbs ∧ (a.natAbs : Int) * b.natAbs < big := by
  have h1 := amt_abs ha; have h2 := amt_abs hb
  have : (a.natAbs : Int) * b.natAbs ≤ 4611686018427387904 * 4611686018427387904 :=
    Int.le_trans (Int.mul_le_mul_of_nonneg_left h2 (by omega)) (Int.mul_le_mul_of_nonneg_right h1 (by omega))
  refine ⟨Int.mul_nonneg (by omega) (by omega), ?_⟩
  unfold big; omega

theorem mul_fine (a b : Int) : fine a b 1 := by unfold fine; omega
theorem mulDiv_one (a b : Int) : mulDivS a b 1 = mulS a b := by
  unfold mulDivS mulS
  have : amt 1 = true := by decide
  rw [this, Int.ediv_one]; simp
end Go.Proofs.YtbjjgnaojoaoiaaGreat
/- accrue.Simple, the reference's one. -/
namespace Go.Proofs.YtbjjgnaojoaoiaaGreat
open Go.RowKit Go
set_option linter.unusedVariables false
set_option linter.unusedSimpArgs false

def okP (a : Int) : Bool := decide (0 ≤ a ∧ a ≤ 4611686018427387904)
def okR (a : Int) : Bool := decide (0 ≤ a ∧ a ≤ 100000)
def okD (a : Int) : Bool := decide (0 ≤ a ∧ a ≤ 3652058)
theorem okP_yes {a : Int} (h : okP a = true) : 0 ≤ a ∧ a ≤ 4611686018427387904 := by simpa [okP] using h
theorem okP_no {a : Int} (h : ¬ okP a = true) : a < 0 ∨ 4611686018427387904 < a := by
  have : ¬ (0 ≤ a ∧ a ≤ 4611686018427387904) := by simpa [okP] using h
  omega
theorem okR_yes {a : Int} (h : okR a = true) : 0 ≤ a ∧ a ≤ 100000 := by simpa [okR] using h
theorem okR_no {a : Int} (h : ¬ okR a = true) : a < 0 ∨ 100000 < a := by
  have : ¬ (0 ≤ a ∧ a ≤ 100000) := by simpa [okR] using h
  omega
theorem okD_yes {a : Int} (h : okD a = true) : 0 ≤ a ∧ a ≤ 3652058 := by simpa [okD] using h
theorem okD_no {a : Int} (h : ¬ okD a = true) : a < 0 ∨ 3652058 < a := by
  have : ¬ (0 ≤ a ∧ a ≤ 3652058) := by simpa [okD] using h
  omega
theorem isP_any (a : Int) (w : World) : Calls Tryz.prog 168 #[.int .i64 a] w fun e w' => e = .returned (.bool (okP a)) ∧ w = w' := by
  by_cases h : okP a = true
  · have h1 := okP_yes h
    have H := Lib.hid h; clear h
    go_enter Tryz.func168, Tryz.ntmps168
    go_wp2
    go_ret
    exact ⟨ret_bool H.out.symm, rfl⟩
  · have h1 := okP_no h
    have H := Lib.hid h; clear h
    rcases h1 with h1 | h1
    all_goals
      go_enter Tryz.func168, Tryz.ntmps168
      go_wp2
      all_goals go_ret
      all_goals have e := Bool.eq_false_iff.2 H.out
      all_goals exact ⟨ret_bool (by first | (rw [e]; done) | (rw [e]; simp; omega)), rfl⟩

theorem isR_any (a : Int) (w : World) : Calls Tryz.prog 169 #[.int .i64 a] w fun e w' => e = .returned (.bool (okR a)) ∧ w = w' := by
  by_cases h : okR a = true
  · have h1 := okR_yes h
    have H := Lib.hid h; clear h
    go_enter Tryz.func169, Tryz.ntmps169
    go_wp2
    go_ret
    exact ⟨ret_bool H.out.symm, rfl⟩
  · have h1 := okR_no h
    have H := Lib.hid h; clear h
    rcases h1 with h1 | h1
    all_goals
      go_enter Tryz.func169, Tryz.ntmps169
      go_wp2
      all_goals go_ret
      all_goals have e := Bool.eq_false_iff.2 H.out
      all_goals exact ⟨ret_bool (by first | (rw [e]; done) | (rw [e]; simp; omega)), rfl⟩

theorem isD_any (a : Int) (w : World) : Calls Tryz.prog 170 #[.int .i64 a] w fun e w' => e = .returned (.bool (okD a)) ∧ w = w' := by
  by_cases h : okD a = true
  · have h1 := okD_yes h
    have H := Lib.hid h; clear h
    go_enter Tryz.func170, Tryz.ntmps170
    go_wp2
    go_ret
    exact ⟨ret_bool H.out.symm, rfl⟩
  · have h1 := okD_no h
    have H := Lib.hid h; clear h
    rcases h1 with h1 | h1
    all_goals
      go_enter Tryz.func170, Tryz.ntmps170
      go_wp2
      all_goals go_ret
      all_goals have e := Bool.eq_false_iff.2 H.out
      all_goals exact ⟨ret_bool (by first | (rw [e]; done) | (rw [e]; simp; omega)), rfl⟩

theorem isP_ref (a : Int) (w : World) : Calls Tryz.prog 160 #[.int .i64 a] w fun e w' => e = .returned (.bool (okP a)) ∧ w = w' := by
  by_cases h : okP a = true
  · have h1 := okP_yes h
    have H := Lib.hid h; clear h
    go_enter Tryz.func160, Tryz.ntmps160
    go_wp2
    go_ret
    exact ⟨ret_bool H.out.symm, rfl⟩
  · have h1 := okP_no h
    have H := Lib.hid h; clear h
    rcases h1 with h1 | h1
    all_goals
      go_enter Tryz.func160, Tryz.ntmps160
      go_wp2
      all_goals go_ret
      all_goals have e := Bool.eq_false_iff.2 H.out
      all_goals exact ⟨ret_bool (by first | (rw [e]; done) | (rw [e]; simp; omega)), rfl⟩

theorem isR_ref (a : Int) (w : World) : Calls Tryz.prog 66 #[.int .i64 a] w fun e w' => e = .returned (.bool (okR a)) ∧ w = w' := by
  by_cases h : okR a = true
  · have h1 := okR_yes h
    have H := Lib.hid h; clear h
    go_enter Tryz.func66, Tryz.ntmps66
    go_wp2
    go_ret
    exact ⟨ret_bool H.out.symm, rfl⟩
  · have h1 := okR_no h
    have H := Lib.hid h; clear h
    rcases h1 with h1 | h1
    all_goals
      go_enter Tryz.func66, Tryz.ntmps66
      go_wp2
      all_goals go_ret
      all_goals have e := Bool.eq_false_iff.2 H.out
      all_goals exact ⟨ret_bool (by first | (rw [e]; done) | (rw [e]; simp; omega)), rfl⟩

end Go.Proofs.YtbjjgnaojoaoiaaGreat
/- Simple, both sides; the walks of AccrueSimple, AccrueRises, AccrueYears. -/
namespace Go.Proofs.YtbjjgnaojoaoiaaGreat
open Go.RowKit Go
set_option linter.unusedVariables false
set_option linter.unusedSimpArgs false

def simpleS (p bp d : Int) : Int × Int := if okP p && okR bp && okD d then told (p * (bp * d) / 3650000) else (0, 1)
theorem rate_days {bp d : Int} (hb : 0 ≤ bp ∧ bp ≤ 100000) (hd : 0 ≤ d ∧ d ≤ 3652058) : 0 ≤ bp * d ∧ bp * d ≤ 365205800000 := by
  refine ⟨Int.mul_nonneg hb.1 hd.1, Int.le_trans (Int.mul_le_mul_of_nonneg_right hb.2 hd.1) ?_⟩
  omega
theorem simple_mulDiv {p bp d : Int} (hp : okP p = true) (hb : okR bp = true) (hd : okD d = true) : mulDivS p (bp * d) 3650000 = simpleS p bp d := by
  have h1 := okP_yes hp; have h2 := rate_days (okR_yes hb) (okD_yes hd)
  have a1 : amt p = true := by simp [amt]; omega
  have a2 : amt (bp * d) = true := by simp [amt]; omega
  have a3 : amt 3650000 = true := by decide
  rw [mulDivS, simpleS, hp, hb, hd, a1, a2, a3]; rfl
theorem simple_fine {p x : Int} (hp : 0 ≤ p) (hx : 0 ≤ x) (c : Int) : fine p x c := .inl (Int.mul_nonneg hp hx)

set_option maxHeartbeats 400000 in
set_option maxRecDepth 100000 in
theorem simple_any (p bp d : Int) (w : World) : Calls Tryz.prog 137 #[.int .i64 p, .int .i64 bp, .int .i64 d] w fun e w' => e = .returned (pr (simpleS p bp d)) ∧ Below w.heap.size w w' := by
  by_cases hp : okP p = true
  · by_cases hb : okR bp = true
    · by_cases hd : okD d = true
      · have h1 := okP_yes hp
        have h2 := rate_days (okR_yes hb) (okD_yes hd)
        have H := Lib.hid (simple_mulDiv hp hb hd)
        go_enter Tryz.func137, Tryz.ntmps137
        go_wp2_with fail
        refine (isP_any p _).mono ?_; rintro e w' ⟨rfl, rfl⟩
        rw [hp]; clear hp
        go_wp2_with fail
        refine (isR_any bp _).mono ?_; rintro e w' ⟨rfl, rfl⟩
        rw [hb]; clear hb
        go_wp2_with fail
        refine (isD_any d _).mono ?_; rintro e w' ⟨rfl, rfl⟩
        rw [hd]; clear hd
        go_wp2_with fail
        refine (mulDiv_any p (bp * d) 3650000 _ (simple_fine h1.1 h2.1 _)).mono ?_; rintro e w1 ⟨rfl, hw1⟩; obtain ⟨hc1, hf1⟩ := bcell hw1; have hz1 := hw1.size; (try simp only [World.size_alloc, World.size_setCell, World.size_drew, size_drewN, Nat.add_one_le_iff] at hz1); (try have hy1 : w.heap.size < w1.heap.size := by omega); (try have hx1 : w.heap.size + 1 < w1.heap.size := by omega); have HW1 := Lib.hid hw1; clear hw1
        go_wp2_with fail
        go_ret2
        exact ⟨ret_pr (by rw [H.out]), (by repeat' (first | (with_reducible exact Below.refl _ _) | (with_reducible refine Below.alloc ?_ ?_ _) | (with_reducible refine below_drewN ?_ _) | (with_reducible refine Below.drew ?_) | (with_reducible refine Below.setCell ?_ ?_ _) | (with_reducible refine Below.trans ?_ (Below.mono HW0.out ?_)) | (with_reducible refine Below.trans ?_ (Below.mono HW1.out ?_)) | (with_reducible refine Below.trans ?_ (Below.mono HW2.out ?_)) | (with_reducible refine Below.trans ?_ (Below.mono HW3.out ?_)) | (with_reducible refine Below.trans ?_ (Below.mono HW4.out ?_)) | (with_reducible refine Below.trans ?_ (Below.mono HW5.out ?_)) | (with_reducible refine Below.trans ?_ (Below.mono HW6.out ?_)) | (with_reducible refine Below.trans ?_ (Below.mono HW7.out ?_)) | (with_reducible exact Nat.le_refl _) | omega | (simp only [World.size_alloc, World.size_setCell, World.size_drew, size_drewN]; omega) | (simp; done) | (simp; omega)))⟩
      · have H : Hid (simpleS p bp d = (0, 1)) := by show _ = _; rw [simpleS, if_neg (by simp [hd])]
        go_enter Tryz.func137, Tryz.ntmps137
        go_wp2_with fail
        refine (isP_any p _).mono ?_; rintro e w' ⟨rfl, rfl⟩
        rw [hp]; clear hp
        go_wp2_with fail
        refine (isR_any bp _).mono ?_; rintro e w' ⟨rfl, rfl⟩
        rw [hb]; clear hb
        go_wp2_with fail
        refine (isD_any d _).mono ?_; rintro e w' ⟨rfl, rfl⟩
        rw [Bool.eq_false_iff.2 hd]; clear hd
        go_wp2_with fail
        go_ret2
        exact ⟨ret_pr H.out, Below.refl _ _⟩
    · have H : Hid (simpleS p bp d = (0, 1)) := by show _ = _; rw [simpleS, if_neg (by simp [hb])]
      go_enter Tryz.func137, Tryz.ntmps137
      go_wp2_with fail
      refine (isP_any p _).mono ?_; rintro e w' ⟨rfl, rfl⟩
      rw [hp]; clear hp
      go_wp2_with fail
      refine (isR_any bp _).mono ?_; rintro e w' ⟨rfl, rfl⟩
      rw [Bool.eq_false_iff.2 hb]; clear hb
      go_wp2_with fail
      go_ret2
      exact ⟨ret_pr H.out, Below.refl _ _⟩
  · have H : Hid (simpleS p bp d = (0, 1)) := by show _ = _; rw [simpleS, if_neg (by simp [hp])]
    go_enter Tryz.func137, Tryz.ntmps137
    go_wp2_with fail
    refine (isP_any p _).mono ?_; rintro e w' ⟨rfl, rfl⟩
    rw [Bool.eq_false_iff.2 hp]; clear hp
    go_wp2_with fail
    go_ret2
    exact ⟨ret_pr H.out, Below.refl _ _⟩

theorem DivRes.pre {n : Bool} {m c : Int} {w0 w' : World} {e : Ending} (h : DivRes n m c w0 e w') : ∃ n' q, e = .returned (.tuple #[wd n' q, .int .i64 (wz n m % c)]) ∧ 0 ≤ q ∧ q ≤ m ∧ Hid (wz n' q = wz n m / c) ∧ Below w0.heap.size w0 w' := by
  obtain ⟨⟨n', q, h1, h2, h3, h4⟩, h5⟩ := h
  exact ⟨n', q, h1, h2, h3, h4, h5⟩

theorem of_nat (a : Int) (w : World) (h0 : 0 ≤ a) (ha : a ≤ 9223372036854775807) : Calls Tryz.prog 16 #[.int .i64 a] w fun e w' => e = .returned (wd false a) ∧ Below w.heap.size w w' := by
  have := of_any a w (by omega)
  rwa [decide_eq_false (by omega), show (a.natAbs : Int) = a by omega] at this

set_option maxHeartbeats 800000 in
set_option maxRecDepth 100000 in
theorem rsimple_any (p bp d : Int) (w : World) : Calls Tryz.prog 192 #[.int .i64 p, .int .i64 bp, .int .i64 d] w fun e w' => e = .returned (pr (simpleS p bp d)) ∧ Below w.heap.size w w' := by
  by_cases hp : okP p = true
  · by_cases hb : okR bp = true
    · by_cases hd : okD d = true
      · have h1 := okP_yes hp
        have h2 := rate_days (okR_yes hb) (okD_yes hd)
        have h3 := okD_yes hd
        have H : Hid (simpleS p bp d = told (p * (bp * d) / 3650000)) := by show _ = _; rw [simpleS, hp, hb, hd]; rfl
        have h4 : 0 ≤ p * (bp * d) := Int.mul_nonneg h1.1 h2.1
        have h5 : p * (bp * d) < big := by
          have : p * (bp * d) ≤ 4611686018427387904 * 365205800000 := Int.le_trans (Int.mul_le_mul_of_nonneg_left h2.2 h1.1) (Int.mul_le_mul_of_nonneg_right h1.2 (by omega))
          unfold big; omega
        clear hd
        go_enter Tryz.func192, Tryz.ntmps192
        go_wp2_with fail
        refine (isP_ref p _).mono ?_; rintro e w' ⟨rfl, rfl⟩
        rw [hp]; clear hp
        go_wp2_with fail
        refine (isR_ref bp _).mono ?_; rintro e w' ⟨rfl, rfl⟩
        rw [hb]; clear hb
        go_wp2_with fail
        refine (of_nat p _ h1.1 (by omega)).mono ?_; rintro e w1 ⟨rfl, hw1⟩; obtain ⟨hc1, hf1⟩ := bcell hw1; have hz1 := hw1.size; (try simp only [World.size_alloc, World.size_setCell, World.size_drew, size_drewN, Nat.add_one_le_iff] at hz1); (try have hy1 : w.heap.size < w1.heap.size := by omega); (try have hx1 : w.heap.size + 1 < w1.heap.size := by omega); have HW1 := Lib.hid hw1; clear hw1
        go_wp2_with fail
        refine (of_nat (bp * d) _ h2.1 (by omega)).mono ?_; rintro e w2 ⟨rfl, hw2⟩; obtain ⟨hc2, hf2⟩ := bcell hw2; have hz2 := hw2.size; (try simp only [World.size_alloc, World.size_setCell, World.size_drew, size_drewN, Nat.add_one_le_iff] at hz2); (try have hy2 : w.heap.size < w2.heap.size := by omega); (try have hx2 : w.heap.size + 1 < w2.heap.size := by omega); have HW2 := Lib.hid hw2; clear hw2
        go_wp2_with fail
        refine (wmul_any false false p (bp * d) _ ⟨h1.1, by omega⟩ ⟨h2.1, by omega⟩).mono ?_; rintro e w3 ⟨rfl, hw3⟩; obtain ⟨hc3, hf3⟩ := bcell hw3; have hz3 := hw3.size; (try simp only [World.size_alloc, World.size_setCell, World.size_drew, size_drewN, Nat.add_one_le_iff] at hz3); (try have hy3 : w.heap.size < w3.heap.size := by omega); (try have hx3 : w.heap.size + 1 < w3.heap.size := by omega); have HW3 := Lib.hid hw3; clear hw3
        go_wp2_with fail
        refine (wdiv_any false (p * (bp * d)) 3650000 _ h4 h5 (by omega) (by omega)).mono ?_
        intro e w4 h6; obtain ⟨n', q, rfl, hq0, hq1, hq2, hw4⟩ := DivRes.pre h6; clear h6; obtain ⟨hc4, hf4⟩ := bcell hw4; have hz4 := hw4.size; (try simp only [World.size_alloc, World.size_setCell, World.size_drew, size_drewN, Nat.add_one_le_iff] at hz4); (try have hy4 : w.heap.size < w4.heap.size := by omega); (try have hx4 : w.heap.size + 1 < w4.heap.size := by omega); have HW4 := Lib.hid hw4; clear hw4
        go_wp2_with fail
        refine (wtold_any n' q _ hq0 (by omega)).mono ?_; rintro e w5 ⟨rfl, hw5⟩; obtain ⟨hc5, hf5⟩ := bcell hw5; have hz5 := hw5.size; (try simp only [World.size_alloc, World.size_setCell, World.size_drew, size_drewN, Nat.add_one_le_iff] at hz5); (try have hy5 : w.heap.size < w5.heap.size := by omega); (try have hx5 : w.heap.size + 1 < w5.heap.size := by omega); have HW5 := Lib.hid hw5; clear hw5
        go_wp2_with fail
        go_ret2
        exact ⟨ret_pr (by rw [H.out, hq2.out]; rfl), (by repeat' (first | (with_reducible exact Below.refl _ _) | (with_reducible refine Below.alloc ?_ ?_ _) | (with_reducible refine below_drewN ?_ _) | (with_reducible refine Below.drew ?_) | (with_reducible refine Below.setCell ?_ ?_ _) | (with_reducible refine Below.trans ?_ (Below.mono HW0.out ?_)) | (with_reducible refine Below.trans ?_ (Below.mono HW1.out ?_)) | (with_reducible refine Below.trans ?_ (Below.mono HW2.out ?_)) | (with_reducible refine Below.trans ?_ (Below.mono HW3.out ?_)) | (with_reducible refine Below.trans ?_ (Below.mono HW4.out ?_)) | (with_reducible refine Below.trans ?_ (Below.mono HW5.out ?_)) | (with_reducible refine Below.trans ?_ (Below.mono HW6.out ?_)) | (with_reducible refine Below.trans ?_ (Below.mono HW7.out ?_)) | (with_reducible exact Nat.le_refl _) | omega | (simp only [World.size_alloc, World.size_setCell, World.size_drew, size_drewN]; omega) | (simp; done) | (simp; omega)))⟩
      · have H : Hid (simpleS p bp d = (0, 1)) := by show _ = _; rw [simpleS, if_neg (by simp [hd])]
        have h3 := okD_no hd
        clear hd
        rcases h3 with h3 | h3
        all_goals
          go_enter Tryz.func192, Tryz.ntmps192
          go_wp2_with fail
          refine (isP_ref p _).mono ?_; rintro e w' ⟨rfl, rfl⟩
          rw [hp]
          go_wp2_with fail
          refine (isR_ref bp _).mono ?_; rintro e w' ⟨rfl, rfl⟩
          rw [hb]
          go_wp2_with fail
          go_ret2
          exact ⟨ret_pr H.out, Below.refl _ _⟩
    · have H : Hid (simpleS p bp d = (0, 1)) := by show _ = _; rw [simpleS, if_neg (by simp [hb])]
      go_enter Tryz.func192, Tryz.ntmps192
      go_wp2_with fail
      refine (isP_ref p _).mono ?_; rintro e w' ⟨rfl, rfl⟩
      rw [hp]; clear hp
      go_wp2_with fail
      refine (isR_ref bp _).mono ?_; rintro e w' ⟨rfl, rfl⟩
      rw [Bool.eq_false_iff.2 hb]; clear hb
      go_wp2_with fail
      go_ret2
      exact ⟨ret_pr H.out, Below.refl _ _⟩
  · have H : Hid (simpleS p bp d = (0, 1)) := by show _ = _; rw [simpleS, if_neg (by simp [hp])]
    go_enter Tryz.func192, Tryz.ntmps192
    go_wp2_with fail
    refine (isP_ref p _).mono ?_; rintro e w' ⟨rfl, rfl⟩
    rw [Bool.eq_false_iff.2 hp]; clear hp
    go_wp2_with fail
    refine (isR_ref bp _).mono ?_; rintro e w' ⟨rfl, rfl⟩
    go_wp2_with fail
    go_ret2
    exact ⟨ret_pr H.out, Below.refl _ _⟩
end Go.Proofs.YtbjjgnaojoaoiaaGreat
/- The calendar, in plain words (Assess, Account): years, months, days; months that are added; how many months a day is behind another. -/
namespace Go.Proofs.YtbjjgnaojoaoiaaGreat
set_option linter.unusedVariables false
set_option linter.unusedSimpArgs false

def leapY (y : Nat) : Bool := decide (y % 4 = 0 ∧ (y % 100 ≠ 0 ∨ y % 400 = 0))
def yl (y : Nat) : Nat := if leapY y then 366 else 365
def ml (y m : Nat) : Nat := if m = 2 then (if leapY y then 29 else 28) else if m = 4 ∨ m = 6 ∨ m = 9 ∨ m = 11 then 30 else 31
/-- The days ahead of a year. -/
def dby (y : Nat) : Nat := (y - 1) * 365 + (y - 1) / 4 - (y - 1) / 100 + (y - 1) / 400
/-- The days of a year ahead of a month. -/
def cumM (y : Nat) : Nat → Nat
  | 0 => 0
  | m + 1 => cumM y m + (if m = 0 then 0 else ml y m)
theorem ml_bd (y m : Nat) : 28 ≤ ml y m ∧ ml y m ≤ 31 := by unfold ml; split <;> (try split) <;> (try split) <;> omega
theorem leapY_iff (y : Nat) : leapY y = true ↔ (y % 4 = 0 ∧ (y % 100 ≠ 0 ∨ y % 400 = 0)) := by simp [leapY]
theorem step4 (n : Nat) : (n + 1) / 4 = n / 4 + (if (n + 1) % 4 = 0 then 1 else 0) := by split <;> omega
theorem step100 (n : Nat) : (n + 1) / 100 = n / 100 + (if (n + 1) % 100 = 0 then 1 else 0) := by split <;> omega
theorem step400 (n : Nat) : (n + 1) / 400 = n / 400 + (if (n + 1) % 400 = 0 then 1 else 0) := by split <;> omega
theorem dby_succ {y : Nat} (h : 1 ≤ y) : dby (y + 1) = dby y + yl y := by
  obtain ⟨n, rfl⟩ : ∃ n, y = n + 1 := ⟨y - 1, by omega⟩
  have e1 := step4 n; have e2 := step100 n; have e3 := step400 n
  have hle : n / 100 ≤ n / 4 := by omega
  have hle2 : (n + 1) / 100 ≤ (n + 1) / 4 := by omega
  have m1 : (n + 1) % 400 = 0 → (n + 1) % 100 = 0 := by omega
  have m2 : (n + 1) % 100 = 0 → (n + 1) % 4 = 0 := by omega
  unfold dby yl
  rw [Nat.add_sub_cancel, Nat.add_sub_cancel]
  generalize (n + 1) / 4 = A at *
  generalize (n + 1) / 100 = B at *
  generalize (n + 1) / 400 = C at *
  generalize n / 4 = a at *
  generalize n / 100 = b at *
  generalize n / 400 = c at *
  by_cases hl : leapY (n + 1) = true
  · rw [if_pos hl]; rw [leapY_iff] at hl
    obtain ⟨h1, h2⟩ := hl
    rw [if_pos h1] at e1
    rcases h2 with h2 | h2
    · rw [if_neg h2] at e2
      rw [if_neg (fun h => h2 (m1 h))] at e3; omega
    · rw [if_pos (m1 h2)] at e2; rw [if_pos h2] at e3; omega
  · rw [if_neg hl]; rw [leapY_iff] at hl
    by_cases h1 : (n + 1) % 4 = 0
    · have h2 : (n + 1) % 100 = 0 := by
        by_cases h2 : (n + 1) % 100 = 0
        · exact h2
        · exact absurd ⟨h1, .inl h2⟩ hl
      have h3 : ¬ (n + 1) % 400 = 0 := fun h3 => hl ⟨h1, .inr h3⟩
      rw [if_pos h1] at e1; rw [if_pos h2] at e2; rw [if_neg h3] at e3; omega
    · rw [if_neg h1] at e1; rw [if_neg (fun h => h1 (m2 h))] at e2; rw [if_neg (fun h => h1 (m2 (m1 h)))] at e3; omega
theorem cumM_one (y : Nat) : cumM y 1 = 0 := by simp [cumM]
theorem cumM_succ (y : Nat) {m : Nat} (h : 1 ≤ m) : cumM y (m + 1) = cumM y m + ml y m := by simp only [cumM]; rw [if_neg (by omega)]
theorem cumM_year (y : Nat) : cumM y 13 = yl y := by
  simp only [cumM, ml, yl]
  by_cases hl : leapY y = true
  · simp [hl]
  · simp [hl]
/-- Day n is the d-th of the month m of the year y. -/
def IsD (n y m d : Nat) : Prop := 1 ≤ y ∧ (1 ≤ m ∧ m ≤ 12) ∧ (1 ≤ d ∧ d ≤ ml y m) ∧ n = dby y + cumM y m + (d - 1)
/-- Months, counted through. -/
def ms (i : Nat) : Nat := dby (i / 12) + cumM (i / 12) (i % 12 + 1)
def mlen (i : Nat) : Nat := ml (i / 12) (i % 12 + 1)
theorem ms_succ {i : Nat} (h : 12 ≤ i) : ms (i + 1) = ms i + mlen i := by
  unfold ms mlen
  by_cases h11 : i % 12 = 11
  · have e1 : (i + 1) / 12 = i / 12 + 1 := by omega
    have e2 : (i + 1) % 12 = 0 := by omega
    rw [e1, e2, h11, dby_succ (by omega), Nat.zero_add, cumM_one]
    have := cumM_year (i / 12)
    rw [show (13 : Nat) = 12 + 1 from rfl, cumM_succ _ (by omega)] at this
    rw [← this, Nat.add_zero, ← Nat.add_assoc]
  · have e1 : (i + 1) / 12 = i / 12 := by omega
    have e2 : (i + 1) % 12 = i % 12 + 1 := by omega
    rw [e1, e2, cumM_succ _ (by omega)]; omega
theorem ms_lt {i : Nat} (h : 12 ≤ i) : ∀ k, ms i + mlen i ≤ ms (i + 1 + k)
  | 0 => by rw [Nat.add_zero, ms_succ h]; exact Nat.le_refl _
  | k + 1 => by
    have := ms_lt h k
    rw [← Nat.add_assoc, ms_succ (i := i + 1 + k) (by omega)]; omega
theorem ms_before {i j : Nat} (h : 12 ≤ i) (hij : i < j) : ms i + mlen i ≤ ms j := by
  have := ms_lt h (j - (i + 1))
  rwa [show i + 1 + (j - (i + 1)) = j by omega] at this
/-- A day lies in one month. -/
theorem ms_one {i j n : Nat} (hi : 12 ≤ i) (hj : 12 ≤ j) (h1 : ms i ≤ n ∧ n < ms i + mlen i) (h2 : ms j ≤ n ∧ n < ms j + mlen j) : i = j := by
  rcases Nat.lt_trichotomy i j with h | h | h
  · have := ms_before hi h; omega
  · exact h
  · have := ms_before hj h; omega
theorem IsD.ms {n y m d : Nat} (h : IsD n y m d) : n = ms (12 * y + (m - 1)) + (d - 1) ∧ d ≤ mlen (12 * y + (m - 1)) ∧ 1 ≤ d ∧ 12 ≤ 12 * y + (m - 1) := by
  obtain ⟨h1, h2, h3, rfl⟩ := h
  have e1 : (12 * y + (m - 1)) / 12 = y := by omega
  have e2 : (12 * y + (m - 1)) % 12 + 1 = m := by omega
  unfold Go.Proofs.YtbjjgnaojoaoiaaGreat.ms mlen
  rw [e1, e2]; exact ⟨rfl, h3.2, h3.1, by omega⟩
theorem IsD.one {n y m d y' m' d' : Nat} (h : IsD n y m d) (h' : IsD n y' m' d') : y = y' ∧ m = m' ∧ d = d' := by
  obtain ⟨a1, a2, a3, a4⟩ := h.ms
  obtain ⟨b1, b2, b3, b4⟩ := h'.ms
  have e := ms_one a4 b4 (n := n) (by omega) (by omega)
  obtain ⟨c1, c2, c3, _⟩ := h
  obtain ⟨c1', c2', c3', _⟩ := h'
  rw [e] at a1
  omega
/-- A year in the program's steps. -/
theorem year_steps {n : Nat} (h : n ≤ 3652058) {k1 k2 k3 k4 n1 n2 n3 n4 : Nat} (e1 : k1 = min (n / 146097) 100) (f1 : n1 = n - k1 * 146097) (e2 : k2 = min (n1 / 36524) 3) (f2 : n2 = n1 - k2 * 36524)
    (e3 : k3 = min (n2 / 1461) 24) (f3 : n3 = n2 - k3 * 1461) (e4 : k4 = min (n3 / 365) 3) (f4 : n4 = n3 - k4 * 365) :
    n = dby (1 + k1 * 400 + k2 * 100 + k3 * 4 + k4) + n4 ∧ n4 < yl (1 + k1 * 400 + k2 * 100 + k3 * 4 + k4) := by
  have hk1 : k1 ≤ 24 := by omega
  have hk2 : k2 ≤ 3 := by omega
  have hk3 : k3 ≤ 24 := by omega
  have hk4 : k4 ≤ 3 := by omega
  have d : dby (1 + k1 * 400 + k2 * 100 + k3 * 4 + k4) = k1 * 146097 + k2 * 36524 + k3 * 1461 + k4 * 365 := by
    unfold dby
    have g1 : (1 + k1 * 400 + k2 * 100 + k3 * 4 + k4 - 1) / 4 = k1 * 100 + k2 * 25 + k3 := by omega
    have g2 : (1 + k1 * 400 + k2 * 100 + k3 * 4 + k4 - 1) / 100 = k1 * 4 + k2 := by omega
    have g3 : (1 + k1 * 400 + k2 * 100 + k3 * 4 + k4 - 1) / 400 = k1 := by omega
    rw [g1, g2, g3]; omega
  refine ⟨by rw [d]; omega, ?_⟩
  unfold yl
  by_cases hl : leapY (1 + k1 * 400 + k2 * 100 + k3 * 4 + k4) = true
  · rw [if_pos hl]; omega
  · rw [if_neg hl]; rw [leapY_iff] at hl; omega
/-- A month in the program's steps: the least one whose days are not yet behind. -/
theorem month_ex {y r : Nat} (h : r < yl y) : ∃ m, (1 ≤ m ∧ m ≤ 12) ∧ cumM y m ≤ r ∧ r < cumM y m + ml y m := by
  have h13 := cumM_year y
  have hz := cumM_one y
  have go : ∀ k, k ≤ 12 → (∃ m, (1 ≤ m ∧ m ≤ 12) ∧ cumM y m ≤ r ∧ r < cumM y m + ml y m) ∨ cumM y (k + 1) ≤ r := by
    intro k
    induction k with
    | zero => intro _; exact .inr (by rw [Nat.zero_add, hz]; omega)
    | succ k ih =>
      intro hk
      rcases ih (by omega) with h1 | h1
      · exact .inl h1
      · by_cases h2 : r < cumM y (k + 1) + ml y (k + 1)
        · exact .inl ⟨k + 1, ⟨by omega, by omega⟩, h1, h2⟩
        · exact .inr (by rw [cumM_succ y (m := k + 1) (by omega)]; omega)
  rcases go 12 (by omega) with h1 | h1
  · exact h1
  · have h2 : cumM y 13 ≤ r := h1
    omega
/-- Months added to the d-th day of month i. -/
def addM (i d n : Nat) : Option Nat := if (i + n) / 12 ≤ 9999 then some (ms (i + n) + (min d (mlen (i + n)) - 1)) else none
/-- How many months the e-th day of month j is behind the d-th of month i. -/
def lateM (i d j e : Nat) : Nat := if min d (mlen j) < e then j - i + 1 else j - i
theorem late_before {i d j e n : Nat} (hi : 12 ≤ i) (hd : 1 ≤ d) (hj : j / 12 ≤ 9999) (he : 1 ≤ e ∧ e ≤ mlen j) (hij : i ≤ j) (hn : n < lateM i d j e) : ∃ x, addM i d n = some x ∧ x < ms j + (e - 1) := by
  have hle : n ≤ j - i := by unfold lateM at hn; split at hn <;> omega
  have hy : (i + n) / 12 ≤ 9999 := Nat.le_trans (Nat.div_le_div_right (by omega)) hj
  refine ⟨_, if_pos hy, ?_⟩
  by_cases h : n = j - i
  · have e1 : i + n = j := by omega
    rw [e1]
    unfold lateM at hn
    split at hn <;> omega
  · have := ms_before (i := i + n) (j := j) (by omega) (by omega)
    have hb := ml_bd ((i + n) / 12) ((i + n) % 12 + 1)
    have : 28 ≤ mlen (i + n) := hb.1
    omega
theorem late_at {i d j e x : Nat} (hi : 12 ≤ i) (hd : 1 ≤ d) (hj : j / 12 ≤ 9999) (he : 1 ≤ e ∧ e ≤ mlen j) (hij : i ≤ j) (hx : addM i d (lateM i d j e) = some x) : ms j + (e - 1) ≤ x := by
  unfold addM at hx
  split at hx
  · cases hx
    unfold lateM
    split
    · have e1 : i + (j - i + 1) = j + 1 := by omega
      rw [e1, ms_succ (by omega)]; omega
    · have e1 : i + (j - i) = j := by omega
      rw [e1]; omega
  · cases hx
theorem cumM_mono (y : Nat) {a : Nat} : ∀ k, cumM y a ≤ cumM y (a + k)
  | 0 => Nat.le_refl _
  | k + 1 => by have := cumM_mono y (a := a) k; rw [← Nat.add_assoc]; simp only [cumM]; omega
theorem dby_big {y : Nat} (h : 10000 ≤ y) : 3652059 ≤ dby y := by unfold dby; omega
theorem dby_le {a b : Nat} (h : a ≤ b) (ha : 1 ≤ a) : dby a ≤ dby b := by
  obtain ⟨k, rfl⟩ : ∃ k, b = a + k := ⟨b - a, by omega⟩
  induction k with
  | zero => exact Nat.le_refl _
  | succ k ih => rw [← Nat.add_assoc, dby_succ (by omega)]; have := ih (by omega); omega
/-- Each day is one of a month. -/
theorem day_ex {n : Nat} (h : n ≤ 3652058) : ∃ y m d, IsD n y m d ∧ y ≤ 9999 := by
  obtain ⟨k1, e1⟩ : ∃ k, k = min (n / 146097) 100 := ⟨_, rfl⟩
  obtain ⟨n1, f1⟩ : ∃ k, k = n - k1 * 146097 := ⟨_, rfl⟩
  obtain ⟨k2, e2⟩ : ∃ k, k = min (n1 / 36524) 3 := ⟨_, rfl⟩
  obtain ⟨n2, f2⟩ : ∃ k, k = n1 - k2 * 36524 := ⟨_, rfl⟩
  obtain ⟨k3, e3⟩ : ∃ k, k = min (n2 / 1461) 24 := ⟨_, rfl⟩
  obtain ⟨n3, f3⟩ : ∃ k, k = n2 - k3 * 1461 := ⟨_, rfl⟩
  obtain ⟨k4, e4⟩ : ∃ k, k = min (n3 / 365) 3 := ⟨_, rfl⟩
  obtain ⟨n4, f4⟩ : ∃ k, k = n3 - k4 * 365 := ⟨_, rfl⟩
  obtain ⟨g1, g2⟩ := year_steps h e1 f1 e2 f2 e3 f3 e4 f4
  obtain ⟨m, hm, hm1, hm2⟩ := month_ex g2
  refine ⟨1 + k1 * 400 + k2 * 100 + k3 * 4 + k4, m, n4 - cumM (1 + k1 * 400 + k2 * 100 + k3 * 4 + k4) m + 1, ⟨by omega, hm, ⟨by omega, by omega⟩, by omega⟩, ?_⟩
  omega
/-- A day's month, counted through, and its day of the month. -/
noncomputable def mi (n : Nat) : Nat × Nat := open Classical in if h : ∃ p : Nat × Nat, ∃ y m, IsD n y m p.2 ∧ p.1 = 12 * y + (m - 1) then h.choose else (0, 0)
theorem mi_eq {n y m d : Nat} (h : IsD n y m d) : mi n = (12 * y + (m - 1), d) := by
  have hex : ∃ p : Nat × Nat, ∃ y m, IsD n y m p.2 ∧ p.1 = 12 * y + (m - 1) := ⟨(12 * y + (m - 1), d), y, m, h, rfl⟩
  unfold mi
  rw [dif_pos hex]
  obtain ⟨y', m', h', e⟩ := hex.choose_spec
  obtain ⟨rfl, rfl, e2⟩ := h.one h'
  exact Prod.ext e e2.symm
/-- How many months a day is behind another one. -/
noncomputable def lateD (due filed : Nat) : Nat := if filed ≤ due then 0 else lateM (mi due).1 (mi due).2 (mi filed).1 (mi filed).2
theorem IsD.order {n y m d n' y' m' d' : Nat} (h : IsD n y m d) (h' : IsD n' y' m' d') (hn : n ≤ n') : 12 * y + (m - 1) < 12 * y' + (m' - 1) ∨ 12 * y + (m - 1) = 12 * y' + (m' - 1) ∧ d ≤ d' := by
  obtain ⟨a1, a2, a3, a4⟩ := h.ms
  obtain ⟨b1, b2, b3, b4⟩ := h'.ms
  rcases Nat.lt_trichotomy (12 * y + (m - 1)) (12 * y' + (m' - 1)) with h1 | h1 | h1
  · exact .inl h1
  · refine .inr ⟨h1, ?_⟩; rw [h1] at a1; omega
  · have := ms_before b4 h1; omega
theorem lateM_mono {i d j e j' e' : Nat} (h : j < j' ∨ j = j' ∧ e ≤ e') (hij : i ≤ j) : lateM i d j e ≤ lateM i d j' e' := by
  unfold lateM
  rcases h with h | ⟨rfl, h⟩
  · split <;> split <;> omega
  · split <;> split <;> omega
theorem lateD_mono {due a b : Nat} (hd : due ≤ 3652058) (ha : a ≤ 3652058) (hb : b ≤ 3652058) (h : a ≤ b) : lateD due a ≤ lateD due b := by
  unfold lateD
  by_cases h1 : a ≤ due
  · rw [if_pos h1]; omega
  · rw [if_neg h1, if_neg (by omega)]
    obtain ⟨y, m, d, g, _⟩ := day_ex hd
    obtain ⟨y1, m1, d1, g1, _⟩ := day_ex ha
    obtain ⟨y2, m2, d2, g2, _⟩ := day_ex hb
    rw [mi_eq g, mi_eq g1, mi_eq g2]
    refine lateM_mono (g1.order g2 h) ?_
    rcases g.order g1 (by omega) with h2 | h2 <;> simp only <;> omega
/-- The day so many months later. -/
noncomputable def addD (due n : Nat) : Option Nat := addM (mi due).1 (mi due).2 n
theorem addM_bd {i d n x : Nat} (hi : 12 ≤ i) (h : addM i d n = some x) : x ≤ 3652058 := by
  unfold addM at h
  split at h
  · cases h
    have e := ms_succ (i := i + n) (by omega)
    have hb := ml_bd ((i + n) / 12) ((i + n) % 12 + 1)
    have h1 : mlen (i + n) ≤ 31 ∧ 28 ≤ mlen (i + n) := ⟨hb.2, hb.1⟩
    have h2 : ms (i + n + 1) ≤ 3652059 := by
      unfold ms
      have h3 : (i + n + 1) / 12 ≤ 9999 ∨ (i + n + 1) / 12 = 10000 ∧ (i + n + 1) % 12 = 0 := by omega
      rcases h3 with h3 | ⟨h3, h4⟩
      · have c1 := cumM_mono ((i + n + 1) / 12) (a := (i + n + 1) % 12 + 1) (12 - (i + n + 1) % 12)
        rw [show (i + n + 1) % 12 + 1 + (12 - (i + n + 1) % 12) = 13 by omega, cumM_year] at c1
        have c2 := dby_succ (y := (i + n + 1) / 12) (by omega)
        have c3 := dby_le (a := (i + n + 1) / 12 + 1) (b := 10000) (by omega) (by omega)
        have c4 : dby 10000 = 3652059 := by decide
        omega
      · rw [h3, h4, Nat.zero_add, cumM_one]; decide
    omega
  · cases h
theorem late_lt {due filed n : Nat} (hd : due ≤ 3652058) (hf : filed ≤ 3652058) (h : n < lateD due filed) : ∃ x, addD due n = some x ∧ x < filed := by
  obtain ⟨y, m, d, g, hy⟩ := day_ex hd
  obtain ⟨y1, m1, d1, g1, hy1⟩ := day_ex hf
  unfold lateD at h
  split at h
  · omega
  · rename_i h1
    unfold addD
    rw [mi_eq g, mi_eq g1] at h
    rw [mi_eq g]
    obtain ⟨a1, a2, a3, a4⟩ := g.ms
    obtain ⟨b1, b2, b3, b4⟩ := g1.ms
    have h2 := g.order g1 (by omega)
    obtain ⟨x, hx, hlt⟩ := late_before (i := 12 * y + (m - 1)) (d := d) (j := 12 * y1 + (m1 - 1)) (e := d1) (n := n) a4 a3 (by have := g1.2.1; omega) ⟨b3, b2⟩ (by omega) h
    exact ⟨x, hx, by omega⟩
theorem late_eq {due filed : Nat} (hd : due ≤ 3652058) (hf : filed ≤ 3652058) : ∀ x, addD due (lateD due filed) = some x → filed ≤ x := by
  intro x hx
  obtain ⟨y, m, d, g, hy⟩ := day_ex hd
  obtain ⟨y1, m1, d1, g1, hy1⟩ := day_ex hf
  obtain ⟨a1, a2, a3, a4⟩ := g.ms
  obtain ⟨b1, b2, b3, b4⟩ := g1.ms
  unfold addD lateD at hx
  split at hx
  · rw [mi_eq g] at hx
    simp only [addM, Nat.add_zero] at hx
    have h2 := g.2.1
    rw [if_pos (by omega)] at hx
    cases hx
    rw [Nat.min_eq_left a2]; omega
  · rw [mi_eq g, mi_eq g1] at hx
    have h2 := g.order g1 (by omega)
    have := late_at (i := 12 * y + (m - 1)) (d := d) (j := 12 * y1 + (m1 - 1)) (e := d1) a4 a3 (by have := g1.2.1; omega) ⟨b3, b2⟩ (by omega) hx
    omega
end Go.Proofs.YtbjjgnaojoaoiaaGreat
