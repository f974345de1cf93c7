/- Laws. -/
import Derived.Test.YtbjjgnaojoaoiaaGreatZZ8
import Derived.Test.YtbjjgnaojoaoiaaGreatZZ9
namespace Go.Proofs.YtbjjgnaojoaoiaaGreat
open Go.RowKit Go
set_option linter.unusedVariables false
set_option linter.unusedSimpArgs false
set_option maxHeartbeats 1600000
set_option maxRecDepth 100000
def okP (a : Int) : Bool := decide (0 ≤ a ∧ a ≤ 4611686018427387904)
def okR (a : Int) : Bool := decide (0 ≤ a ∧ a ≤ 100000)
def okD (a : Int) : Bool := decide (0 ≤ a ∧ a ≤ 3652058)
theorem okP_yes {a : Int} (h : okP a = true) : 0 ≤ a ∧ a ≤ 4611686018427387904 := by simpa [okP] using h
theorem okP_no {a : Int} (h : ¬ okP a = true) : a < 0 ∨ 4611686018427387904 < a := by
 have : ¬ (0 ≤ a ∧ a ≤ 4611686018427387904) := by simpa [okP] using h
 omega
theorem okR_yes {a : Int} (h : okR a = true) : 0 ≤ a ∧ a ≤ 100000 := by simpa [okR] using h
theorem okR_no {a : Int} (h : ¬ okR a = true) : a < 0 ∨ 100000 < a := by
 have : ¬ (0 ≤ a ∧ a ≤ 100000) := by simpa [okR] using h
 omega
theorem okD_yes {a : Int} (h : okD a = true) : 0 ≤ a ∧ a ≤ 3652058 := by simpa [okD] using h
theorem okD_no {a : Int} (h : ¬ okD a = true) : a < 0 ∨ 3652058 < a := by
 have : ¬ (0 ≤ a ∧ a ≤ 3652058) := by simpa [okD] using h
 omega
theorem isP_any (a : Int) (w : World) : Calls Tryz.prog 168 #[.int .i64 a] w fun e w' => e = .returned (.bool (okP a)) ∧ w = w' := by
 by_cases h : okP a = true
 · have h1 := okP_yes h
   have H := hyd h; clear h
   go_enter Tryz.func168, Tryz.ntmps168
   go_wp2
   go_ret
   exact ⟨ret_bool H.out.symm, rfl⟩
 · have h1 := okP_no h
   have H := hyd h; clear h
   rcases h1 with h1 | h1
   all_goals
    go_enter Tryz.func168, Tryz.ntmps168
    go_wp2
    all_goals go_ret
    all_goals have e := Bool.eq_false_iff.2 H.out
    all_goals exact ⟨ret_bool (by first | (rw [e]; done) | (rw [e]; simp; omega)), rfl⟩
theorem isR_any (a : Int) (w : World) : Calls Tryz.prog 169 #[.int .i64 a] w fun e w' => e = .returned (.bool (okR a)) ∧ w = w' := by
 by_cases h : okR a = true
 · have h1 := okR_yes h
   have H := hyd h; clear h
   go_enter Tryz.func169, Tryz.ntmps169
   go_wp2
   go_ret
   exact ⟨ret_bool H.out.symm, rfl⟩
 · have h1 := okR_no h
   have H := hyd h; clear h
   rcases h1 with h1 | h1
   all_goals
    go_enter Tryz.func169, Tryz.ntmps169
    go_wp2
    all_goals go_ret
    all_goals have e := Bool.eq_false_iff.2 H.out
    all_goals exact ⟨ret_bool (by first | (rw [e]; done) | (rw [e]; simp; omega)), rfl⟩
theorem isD_any (a : Int) (w : World) : Calls Tryz.prog 170 #[.int .i64 a] w fun e w' => e = .returned (.bool (okD a)) ∧ w = w' := by
 by_cases h : okD a = true
 · have h1 := okD_yes h
   have H := hyd h; clear h
   go_enter Tryz.func170, Tryz.ntmps170
   go_wp2
   go_ret
   exact ⟨ret_bool H.out.symm, rfl⟩
 · have h1 := okD_no h
   have H := hyd h; clear h
   rcases h1 with h1 | h1
   all_goals
    go_enter Tryz.func170, Tryz.ntmps170
    go_wp2
    all_goals go_ret
    all_goals have e := Bool.eq_false_iff.2 H.out
    all_goals exact ⟨ret_bool (by first | (rw [e]; done) | (rw [e]; simp; omega)), rfl⟩
theorem isP_ref (a : Int) (w : World) : Calls Tryz.prog 160 #[.int .i64 a] w fun e w' => e = .returned (.bool (okP a)) ∧ w = w' := by
 by_cases h : okP a = true
 · have h1 := okP_yes h
   have H := hyd h; clear h
   go_enter Tryz.func160, Tryz.ntmps160
   go_wp2
   go_ret
   exact ⟨ret_bool H.out.symm, rfl⟩
 · have h1 := okP_no h
   have H := hyd h; clear h
   rcases h1 with h1 | h1
   all_goals
    go_enter Tryz.func160, Tryz.ntmps160
    go_wp2
    all_goals go_ret
    all_goals have e := Bool.eq_false_iff.2 H.out
    all_goals exact ⟨ret_bool (by first | (rw [e]; done) | (rw [e]; simp; omega)), rfl⟩
theorem isR_ref (a : Int) (w : World) : Calls Tryz.prog 66 #[.int .i64 a] w fun e w' => e = .returned (.bool (okR a)) ∧ w = w' := by
 by_cases h : okR a = true
 · have h1 := okR_yes h
   have H := hyd h; clear h
   go_enter Tryz.func66, Tryz.ntmps66
   go_wp2
   go_ret
   exact ⟨ret_bool H.out.symm, rfl⟩
 · have h1 := okR_no h
   have H := hyd h; clear h
   rcases h1 with h1 | h1
   all_goals
    go_enter Tryz.func66, Tryz.ntmps66
    go_wp2
    all_goals go_ret
    all_goals have e := Bool.eq_false_iff.2 H.out
    all_goals exact ⟨ret_bool (by first | (rw [e]; done) | (rw [e]; simp; omega)), rfl⟩
def simpleS (p bp d : Int) : Int × Int := if okP p && okR bp && okD d then told (p * (bp * d) / 3650000) else (0, 1)
theorem rate_days {bp d : Int} (hb : 0 ≤ bp ∧ bp ≤ 100000) (hd : 0 ≤ d ∧ d ≤ 3652058) : 0 ≤ bp * d ∧ bp * d ≤ 365205800000 := by
 refine ⟨Int.mul_nonneg hb.1 hd.1, Int.le_trans (Int.mul_le_mul_of_nonneg_right hb.2 hd.1) ?_⟩
 omega
theorem simple_mulDiv {p bp d : Int} (hp : okP p = true) (hb : okR bp = true) (hd : okD d = true) : mulDivS p (bp * d) 3650000 = simpleS p bp d := by
 have h1 := okP_yes hp; have h2 := rate_days (okR_yes hb) (okD_yes hd)
 have a1 : amt p = true := by simp [amt]; omega
 have a2 : amt (bp * d) = true := by simp [amt]; omega
 have a3 : amt 3650000 = true := by decide
 rw [mulDivS, simpleS, hp, hb, hd, a1, a2, a3]; rfl
theorem simple_fine {p x : Int} (hp : 0 ≤ p) (hx : 0 ≤ x) (c : Int) : fine p x c := .inl (Int.mul_nonneg hp hx)
theorem simple_any (p bp d : Int) (w : World) : Calls Tryz.prog 137 #[.int .i64 p, .int .i64 bp, .int .i64 d] w fun e w' => e = .returned (pr (simpleS p bp d)) ∧ Below w.heap.size w w' := by
 by_cases hp : okP p = true
 · by_cases hb : okR bp = true
   · by_cases hd : okD d = true
     · have h1 := okP_yes hp
       have h2 := rate_days (okR_yes hb) (okD_yes hd)
       have H := hyd (simple_mulDiv hp hb hd)
       go_enter Tryz.func137, Tryz.ntmps137
       go_wp2_with fail
       refine (isP_any p _).mono ?_; rintro e w' ⟨rfl, rfl⟩
       rw [hp]; clear hp
       go_wp2_with fail
       refine (isR_any bp _).mono ?_; rintro e w' ⟨rfl, rfl⟩
       rw [hb]; clear hb
       go_wp2_with fail
       refine (isD_any d _).mono ?_; rintro e w' ⟨rfl, rfl⟩
       rw [hd]; clear hd
       go_wp2_with fail
       refine (mulDiv_any p (bp * d) 3650000 _ (simple_fine h1.1 h2.1 _)).mono ?_; rintro e w1 ⟨rfl, hw1⟩; obtain ⟨hc1, hf1⟩ := bcell hw1; have hz1 := hw1.size; (try simp only [szA, szS, szD, size_drewN, Nat.add_one_le_iff] at hz1); (try have hy1 : w.heap.size < w1.heap.size := by omega); (try have hx1 : w.heap.size + 1 < w1.heap.size := by omega); have HW1 := hyd hw1; clear hw1
       go_wp2_with fail
       go_ret2
       exact ⟨ret_pr (by rw [H.out]), bly⟩
     · have H : Hid (simpleS p bp d = (0, 1)) := by show _ = _; rw [simpleS, if_neg (by simp [hd])]
       go_enter Tryz.func137, Tryz.ntmps137
       go_wp2_with fail
       refine (isP_any p _).mono ?_; rintro e w' ⟨rfl, rfl⟩
       rw [hp]; clear hp
       go_wp2_with fail
       refine (isR_any bp _).mono ?_; rintro e w' ⟨rfl, rfl⟩
       rw [hb]; clear hb
       go_wp2_with fail
       refine (isD_any d _).mono ?_; rintro e w' ⟨rfl, rfl⟩
       rw [Bool.eq_false_iff.2 hd]; clear hd
       go_wp2_with fail
       go_ret2
       exact ⟨ret_pr H.out, Below.refl _ _⟩
   · have H : Hid (simpleS p bp d = (0, 1)) := by show _ = _; rw [simpleS, if_neg (by simp [hb])]
     go_enter Tryz.func137, Tryz.ntmps137
     go_wp2_with fail
     refine (isP_any p _).mono ?_; rintro e w' ⟨rfl, rfl⟩
     rw [hp]; clear hp
     go_wp2_with fail
     refine (isR_any bp _).mono ?_; rintro e w' ⟨rfl, rfl⟩
     rw [Bool.eq_false_iff.2 hb]; clear hb
     go_wp2_with fail
     go_ret2
     exact ⟨ret_pr H.out, Below.refl _ _⟩
 · have H : Hid (simpleS p bp d = (0, 1)) := by show _ = _; rw [simpleS, if_neg (by simp [hp])]
   go_enter Tryz.func137, Tryz.ntmps137
   go_wp2_with fail
   refine (isP_any p _).mono ?_; rintro e w' ⟨rfl, rfl⟩
   rw [Bool.eq_false_iff.2 hp]; clear hp
   go_wp2_with fail
   go_ret2
   exact ⟨ret_pr H.out, Below.refl _ _⟩
theorem DivRes.pre {n : Bool} {m c : Int} {w0 w' : World} {e : Ending} (h : DivRes n m c w0 e w') : ∃ n' q, e = .returned (.tuple #[wd n' q, .int .i64 (wz n m % c)]) ∧ 0 ≤ q ∧ q ≤ m ∧ Hid (wz n' q = wz n m / c) ∧ Below w0.heap.size w0 w' := by
 obtain ⟨⟨n', q, h1, h2, h3, h4⟩, h5⟩ := h
 exact ⟨n', q, h1, h2, h3, h4, h5⟩
theorem of_nat (a : Int) (w : World) (h0 : 0 ≤ a) (ha : a ≤ 9223372036854775807) : Calls Tryz.prog 16 #[.int .i64 a] w fun e w' => e = .returned (wd false a) ∧ Below w.heap.size w w' := by
 have := of_any a w (by omega)
 rwa [decide_eq_false (by omega), show (a.natAbs : Int) = a by omega] at this
theorem rsimple_any (p bp d : Int) (w : World) : Calls Tryz.prog 192 #[.int .i64 p, .int .i64 bp, .int .i64 d] w fun e w' => e = .returned (pr (simpleS p bp d)) ∧ Below w.heap.size w w' := by
 by_cases hp : okP p = true
 · by_cases hb : okR bp = true
   · by_cases hd : okD d = true
     · have h1 := okP_yes hp
       have h2 := rate_days (okR_yes hb) (okD_yes hd)
       have h3 := okD_yes hd
       have H : Hid (simpleS p bp d = told (p * (bp * d) / 3650000)) := by show _ = _; rw [simpleS, hp, hb, hd]; rfl
       have h4 : 0 ≤ p * (bp * d) := Int.mul_nonneg h1.1 h2.1
       have h5 : p * (bp * d) < big := by
        have : p * (bp * d) ≤ 4611686018427387904 * 365205800000 := Int.le_trans (Int.mul_le_mul_of_nonneg_left h2.2 h1.1) (Int.mul_le_mul_of_nonneg_right h1.2 (by omega))
        unfold big; omega
       clear hd
       go_enter Tryz.func192, Tryz.ntmps192
       go_wp2_with fail
       refine (isP_ref p _).mono ?_; rintro e w' ⟨rfl, rfl⟩
       rw [hp]; clear hp
       go_wp2_with fail
       refine (isR_ref bp _).mono ?_; rintro e w' ⟨rfl, rfl⟩
       rw [hb]; clear hb
       go_wp2_with fail
       refine (of_nat p _ h1.1 (by omega)).mono ?_; rintro e w1 ⟨rfl, hw1⟩; obtain ⟨hc1, hf1⟩ := bcell hw1; have hz1 := hw1.size; (try simp only [szA, szS, szD, size_drewN, Nat.add_one_le_iff] at hz1); (try have hy1 : w.heap.size < w1.heap.size := by omega); (try have hx1 : w.heap.size + 1 < w1.heap.size := by omega); have HW1 := hyd hw1; clear hw1
       go_wp2_with fail
       refine (of_nat (bp * d) _ h2.1 (by omega)).mono ?_; rintro e w2 ⟨rfl, hw2⟩; obtain ⟨hc2, hf2⟩ := bcell hw2; have hz2 := hw2.size; (try simp only [szA, szS, szD, size_drewN, Nat.add_one_le_iff] at hz2); (try have hy2 : w.heap.size < w2.heap.size := by omega); (try have hx2 : w.heap.size + 1 < w2.heap.size := by omega); have HW2 := hyd hw2; clear hw2
       go_wp2_with fail
       refine (wmul_any false false p (bp * d) _ ⟨h1.1, by omega⟩ ⟨h2.1, by omega⟩).mono ?_; rintro e w3 ⟨rfl, hw3⟩; obtain ⟨hc3, hf3⟩ := bcell hw3; have hz3 := hw3.size; (try simp only [szA, szS, szD, size_drewN, Nat.add_one_le_iff] at hz3); (try have hy3 : w.heap.size < w3.heap.size := by omega); (try have hx3 : w.heap.size + 1 < w3.heap.size := by omega); have HW3 := hyd hw3; clear hw3
       go_wp2_with fail
       refine (wdiv_any false (p * (bp * d)) 3650000 _ h4 h5 (by omega) (by omega)).mono ?_
       intro e w4 h6; obtain ⟨n', q, rfl, hq0, hq1, hq2, hw4⟩ := DivRes.pre h6; clear h6; obtain ⟨hc4, hf4⟩ := bcell hw4; have hz4 := hw4.size; (try simp only [szA, szS, szD, size_drewN, Nat.add_one_le_iff] at hz4); (try have hy4 : w.heap.size < w4.heap.size := by omega); (try have hx4 : w.heap.size + 1 < w4.heap.size := by omega); have HW4 := hyd hw4; clear hw4
       go_wp2_with fail
       refine (wtold_any n' q _ hq0 (by omega)).mono ?_; rintro e w5 ⟨rfl, hw5⟩; obtain ⟨hc5, hf5⟩ := bcell hw5; have hz5 := hw5.size; (try simp only [szA, szS, szD, size_drewN, Nat.add_one_le_iff] at hz5); (try have hy5 : w.heap.size < w5.heap.size := by omega); (try have hx5 : w.heap.size + 1 < w5.heap.size := by omega); have HW5 := hyd hw5; clear hw5
       go_wp2_with fail
       go_ret2
       exact ⟨ret_pr (by rw [H.out, hq2.out]; rfl), bly⟩
     · have H : Hid (simpleS p bp d = (0, 1)) := by show _ = _; rw [simpleS, if_neg (by simp [hd])]
       have h3 := okD_no hd
       clear hd
       rcases h3 with h3 | h3
       all_goals
        go_enter Tryz.func192, Tryz.ntmps192
        go_wp2_with fail
        refine (isP_ref p _).mono ?_; rintro e w' ⟨rfl, rfl⟩
        rw [hp]
        go_wp2_with fail
        refine (isR_ref bp _).mono ?_; rintro e w' ⟨rfl, rfl⟩
        rw [hb]
        go_wp2_with fail
        go_ret2
        exact ⟨ret_pr H.out, Below.refl _ _⟩
   · have H : Hid (simpleS p bp d = (0, 1)) := by show _ = _; rw [simpleS, if_neg (by simp [hb])]
     go_enter Tryz.func192, Tryz.ntmps192
     go_wp2_with fail
     refine (isP_ref p _).mono ?_; rintro e w' ⟨rfl, rfl⟩
     rw [hp]; clear hp
     go_wp2_with fail
     refine (isR_ref bp _).mono ?_; rintro e w' ⟨rfl, rfl⟩
     rw [Bool.eq_false_iff.2 hb]; clear hb
     go_wp2_with fail
     go_ret2
     exact ⟨ret_pr H.out, Below.refl _ _⟩
 · have H : Hid (simpleS p bp d = (0, 1)) := by show _ = _; rw [simpleS, if_neg (by simp [hp])]
   go_enter Tryz.func192, Tryz.ntmps192
   go_wp2_with fail
   refine (isP_ref p _).mono ?_; rintro e w' ⟨rfl, rfl⟩
   rw [Bool.eq_false_iff.2 hp]; clear hp
   go_wp2_with fail
   refine (isR_ref bp _).mono ?_; rintro e w' ⟨rfl, rfl⟩
   go_wp2_with fail
   go_ret2
   exact ⟨ret_pr H.out, Below.refl _ _⟩
end Go.Proofs.YtbjjgnaojoaoiaaGreat
