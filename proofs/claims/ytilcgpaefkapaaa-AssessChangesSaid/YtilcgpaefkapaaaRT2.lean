/- rates: taxed, Tax. -/
import Derived.Test.YtilcgpaefkapaaaRT
namespace Go.Proofs.Ytilcgpaefkapaaa
open Go.RowKit Go
set_option linter.unusedVariables false
set_option linter.unusedSimpArgs false

noncomputable def taxedS (s : Sch) (x : Int) : Int × Int := if okS s && mny x then (partS s x, 0) else (0, 1)
set_option maxHeartbeats 1600000 in
theorem taxed_any (A : Option Addr) (n c : Nat) (s : Sch) (x : Int) (w : World) (hn : s.bs.length = n) (hr : Rd w w.heap.size 2 A n (brCs s.bs)) :
    Calls Try.prog 46 #[schV A n c s, .int .i64 x] w fun e w' => e = .returned (pr (taxedS s x)) ∧ Below w.heap.size w w' := by
  have hb0 := below_new w (schO A n c s)
  have HR := Lib.hid (right_any A n c s _ hn ((hr.below hb0).wider hb0.size))
  have hbk := heap_alloc_new w (schO A n c s)
  have HB0 := Lib.hid hb0
  have hz0 : w.heap.size < (w.alloc (schO A n c s)).heap.size := by simp
  clear hb0 hr hn
  by_cases hok : okS s = true
  · have HOK := okS_yes hok
    by_cases hx : mny x = true
    · have HT : Hid (taxedS s x = (partS s x, 0)) := if_pos (by rw [hok, hx]; rfl)
      have hd := mny_yes HOK.2.2.2.2.2.1
      have hx' := mny_yes hx
      clear HOK
      go_enter Try.func46, Try.ntmps46
      go_wp2_with fail
      refine HR.out.mono ?_; rintro e w1 ⟨rfl, hw1⟩
      have hbk1 := blk_below hbk hw1 (by simp)
      obtain ⟨d0, d1, d2, d3, d4, d5⟩ := cells6 hbk1
      have HW1 := Lib.hid (HB0.out.trans (hw1.mono (by simp)))
      have hz1 := hw1.size
      simp only [World.size_alloc, Nat.add_one_le_iff] at hz1
      rw [hok]
      clear hw1 hbk1 hok
      go_wp2_with fail
      refine (money1 x w1).mono ?_; rintro e w' ⟨rfl, rfl⟩
      rw [hx]; clear hx
      go_wp2_with fail
      all_goals go_ret2
      all_goals exact ⟨ret_pr (by rw [HT.out]; exact Prod.ext (by show partS s x = _; unfold partS; omega) rfl), HW1.out.trans (Below.mono (below_new _ _) HW1.out.size)⟩
    · have HT : Hid (taxedS s x = (0, 1)) := if_neg (by simp [hx])
      clear HOK
      go_enter Try.func46, Try.ntmps46
      go_wp2_with fail
      refine HR.out.mono ?_; rintro e w1 ⟨rfl, hw1⟩
      have HW1 := Lib.hid (HB0.out.trans (hw1.mono (by simp)))
      rw [hok]
      clear hw1 hok
      go_wp2_with fail
      refine (money1 x w1).mono ?_; rintro e w' ⟨rfl, rfl⟩
      rw [Bool.eq_false_iff.2 hx]; clear hx
      go_wp2_with fail
      go_ret2
      exact ⟨ret_pr HT.out, HW1.out.trans (Below.mono (below_new _ _) HW1.out.size)⟩
  · have HT : Hid (taxedS s x = (0, 1)) := if_neg (by simp [hok])
    go_enter Try.func46, Try.ntmps46
    go_wp2_with fail
    refine HR.out.mono ?_; rintro e w1 ⟨rfl, hw1⟩
    have HW1 := Lib.hid (HB0.out.trans (hw1.mono (by simp)))
    rw [Bool.eq_false_iff.2 hok]
    clear hw1 hok
    go_wp2_with fail
    go_ret2
    exact ⟨ret_pr HT.out, HW1.out⟩

set_option maxHeartbeats 3200000 in
theorem tax_any (A : Option Addr) (n c : Nat) (s : Sch) (x : Int) (w : World) (hn : s.bs.length = n) (hr : Rd w w.heap.size 2 A n (brCs s.bs)) :
    Calls Try.prog 25 #[schV A n c s, .int .i64 x] w fun e w' => e = .returned (pr (taxS s x)) ∧ Below w.heap.size w w' := by
  have hb0 := below_new w (schO A n c s)
  have hr0 := (hr.below hb0).wider hb0.size
  have HTX := Lib.hid (taxed_any A n c s x _ hn hr0)
  have hbk := heap_alloc_new w (schO A n c s)
  have HB0 := Lib.hid hb0; have HR0 := Lib.hid hr0; have HN := Lib.hid hn
  have hz0 : w.heap.size < (w.alloc (schO A n c s)).heap.size := by simp
  clear hb0 hr hr0 hn
  by_cases hok : (okS s && mny x) = true
  · have hok' : okS s = true ∧ mny x = true := by simpa using hok
    have HOK := Lib.hid (okS_yes hok'.1)
    have HV := Lib.hid (taxV_bd HOK.out hok'.2)
    have hx' := mny_yes hok'.2
    have HT : Hid (taxS s x = (taxV s x, 0)) := if_pos hok
    have ht : taxedS s x = (partS s x, 0) := if_pos hok
    obtain ⟨P, hP⟩ : ∃ P, partS s x = P := ⟨_, rfl⟩
    rw [hP] at ht
    have HPD : Hid (partS s x = P) := hP
    have hPb : 0 ≤ P ∧ P ≤ 1125899906842624 := by
      have hd := mny_yes HOK.out.2.2.2.2.2.1
      rw [← hP]; unfold partS; omega
    have hcr := mny_yes HOK.out.2.2.2.2.2.2.1
    have hn10 : n ≤ 10 := by have := HOK.out.1.2; have := HN.out; omega
    rw [ht] at HTX
    clear ht hok' hP hok
    go_enter Try.func25, Try.ntmps25
    go_wp2_with fail
    refine HTX.out.mono ?_; rintro e w1 ⟨rfl, hw1⟩
    have hbk1 := blk_below hbk hw1 (by simp)
    have HR1 := Lib.hid (HR0.out.below hw1)
    have HW1 := Lib.hid (HB0.out.trans (hw1.mono (by simp)))
    have hz1 := hw1.size
    simp only [World.size_alloc, Nat.add_one_le_iff] at hz1
    have HBK := Lib.hid hbk1
    obtain ⟨d0, d1, d2, d3, d4, d5⟩ := cells6 hbk1
    have hsub : IntKind.i64.wrap ((n : Int) - 1) = (n : Int) - 1 := IntWalk.i64_in _ (by omega)
    clear hw1 hbk1 hbk
    go_wp2_with fail
    clear hsub d0 d1 d2 d3 d4 d5
    go_loopg [6, 8, 9, 10] n (fun g v6 v8 v9 v10 wr => ∃ (k u p : Nat) (left : Int), g = k ∧ k ≤ n ∧ v10 = .int .i64 ((k : Int) - 1) ∧ v6 = .int .i64 left ∧ v8 = .int .i64 u ∧ v9 = .int .i64 p ∧ Dn s.bs P k left u p ∧ Below w1.heap.size w1 wr)
    case atStart => exact ⟨n, 0, 0, P, rfl, Nat.le_refl _, rfl, rfl, rfl, rfl, by have := Dn.start (bs := s.bs) (P := P); rwa [HN.out] at this, Below.refl _ _⟩
    case round =>
      obtain ⟨k, u, p, left, hgk, hk, rfl, rfl, rfl, rfl, hdn, hbr⟩ := hrel
      have HG := Lib.hid hgk; have HDN := Lib.hid hdn; have HB := Lib.hid hbr
      have hzr := hbr.size
      have hbd := hdn.bound HOK.out.2.2.2.2.1 HOK.out.2.2.2.1 hPb HOK.out.1.2 (by have := HN.out; omega)
      have hbk2 := blk_below HBK.out hbr (blk_lt HBK.out)
      obtain ⟨d0, d1, d2, d3, d4, d5⟩ := cells6 hbk2
      obtain ⟨⟨l1, l2⟩, ⟨u1, u2⟩, ⟨p1, p2⟩⟩ := hbd
      clear hgk hdn hbk2
      rcases Nat.eq_zero_or_pos k with h0 | h0
      · subst h0
        have HE : Hid ((u : Int) + (p : Int) / 10000 - s.cred = up_ s.bs P s.bs.length / 10000 - s.cred) := by show _ = _; rw [HDN.out.done]
        go_wp2_with fail
        all_goals go_ret2
        all_goals exact ⟨ret_pr (by rw [HT.out]; exact Prod.ext (by show taxV s x = _; rw [taxV, HPD.out, ← HE.out]; omega) rfl), HW1.out.trans (HB.out.mono HW1.out.size)⟩
      · obtain ⟨j, rfl⟩ : ∃ j, k = j + 1 := ⟨k - 1, by omega⟩
        have hj' : j < s.bs.length := by have := HN.out; omega
        obtain ⟨b, off, rfl, hb, r0, r1⟩ := (HR1.out.below (hbr.mono (by simp; omega))).br hj' HN.out
        have hok := HOK.out.2.2.2.2.1 j hj'
        have HSK := Lib.hid (fun h => HDN.out.skip HOK.out.2.2.2.2.1 hj' h)
        have HST := Lib.hid (fun h => HDN.out.step HOK.out.2.2.2.2.1 hj' h)
        have HBD := Lib.hid (fun l u p (d : Dn s.bs P j l u p) => d.bound HOK.out.2.2.2.2.1 HOK.out.2.2.2.1 hPb HOK.out.1.2 (by omega))
        obtain ⟨⟨f1, f2⟩, ⟨q1, q2⟩, _⟩ := hok
        generalize fr s.bs j = F at *
        obtain ⟨q, hq⟩ : ∃ q : Nat, bpA s.bs j = (q : Int) := ⟨(bpA s.bs j).toNat, by omega⟩
        rw [hq] at r1 q1 q2 HST
        have j1 : (0 : Int) ≤ (j : Int) := by omega
        have j2 : (j : Int) < (n : Int) := by omega
        have e1 : ((j + 1 : Nat) : Int) - 1 = (j : Int) := by omega
        rw [e1]
        have s1 : IntKind.i64.wrap ((j : Int) - 1) = (j : Int) - 1 := IntWalk.i64_in _ (by omega)
        have hzb : b < wr.heap.size := by simp at hb; omega
        clear e1 hq hbr
        by_cases hle : left ≤ F
        · have HS := Lib.hid (HSK.out hle)
          go_wp2_with fail
          go_roundg j
          case measure => have := HG.out; omega
          case rel => exact ⟨j, u, p, left, rfl, by omega, rfl, rfl, rfl, rfl, HS.out, HB.out.trans (Below.mono (by repeat' (first | (with_reducible exact Below.refl _ _) | (with_reducible refine Below.alloc ?_ ?_ _) | (with_reducible refine below_drewN ?_ _) | (with_reducible refine Below.drew ?_) | (with_reducible refine Below.setCell ?_ ?_ _) | (with_reducible refine Below.trans ?_ (Below.mono HW0.out ?_)) | (with_reducible refine Below.trans ?_ (Below.mono HW1.out ?_)) | (with_reducible refine Below.trans ?_ (Below.mono HW2.out ?_)) | (with_reducible refine Below.trans ?_ (Below.mono HW3.out ?_)) | (with_reducible refine Below.trans ?_ (Below.mono HW4.out ?_)) | (with_reducible refine Below.trans ?_ (Below.mono HW5.out ?_)) | (with_reducible refine Below.trans ?_ (Below.mono HW6.out ?_)) | (with_reducible refine Below.trans ?_ (Below.mono HW7.out ?_)) | (with_reducible exact Nat.le_refl _) | omega | (simp only [World.size_alloc, World.size_setCell, World.size_drew, size_drewN]; omega) | (simp; done) | (simp; omega))) HB.out.size)⟩
        · have hs := HST.out hle
          have hbd2 := HBD.out _ _ _ hs
          obtain ⟨I, hI⟩ : ∃ I : Nat, left - F = (I : Int) := ⟨(left - F).toNat, by omega⟩
          rw [hI] at hs hbd2
          obtain ⟨X, hX⟩ : ∃ X : Nat, (I : Int) / 10000 * (q : Int) = (X : Int) := ⟨I / 10000 * q, by simp⟩
          obtain ⟨Y, hY⟩ : ∃ Y : Nat, (I : Int) % 10000 * (q : Int) = (Y : Int) := ⟨I % 10000 * q, by simp⟩
          rw [hX, hY] at hs hbd2
          obtain ⟨_, ⟨_, x2⟩, ⟨_, y2⟩⟩ := hbd2
          have hIb : (I : Int) ≤ 1125899906842624 := by omega
          have sI : IntKind.i64.wrap (left - F) = (I : Int) := by rw [IntWalk.i64_in _ (by omega)]; exact hI
          have sX : IntKind.i64.wrap ((I : Int) / 10000 * (q : Int)) = (X : Int) := by rw [hX]; exact IntWalk.i64_in _ (by omega)
          have sY : IntKind.i64.wrap ((I : Int) % 10000 * (q : Int)) = (Y : Int) := by rw [hY]; exact IntWalk.i64_in _ (by omega)
          have HS := Lib.hid hs
          clear hs hI hX hY
          go_wp2_with fail
          go_quiet (fail)
          go_wp2_with fail
          go_roundg j
          case measure => have := HG.out; omega
          case rel => exact ⟨j, u + X, p + Y, F, rfl, by omega, rfl, rfl, by go_num, by go_num, by have := HS.out; simpa using this, HB.out.trans (Below.mono (by repeat' (first | (with_reducible exact Below.refl _ _) | (with_reducible refine Below.alloc ?_ ?_ _) | (with_reducible refine below_drewN ?_ _) | (with_reducible refine Below.drew ?_) | (with_reducible refine Below.setCell ?_ ?_ _) | (with_reducible refine Below.trans ?_ (Below.mono HW0.out ?_)) | (with_reducible refine Below.trans ?_ (Below.mono HW1.out ?_)) | (with_reducible refine Below.trans ?_ (Below.mono HW2.out ?_)) | (with_reducible refine Below.trans ?_ (Below.mono HW3.out ?_)) | (with_reducible refine Below.trans ?_ (Below.mono HW4.out ?_)) | (with_reducible refine Below.trans ?_ (Below.mono HW5.out ?_)) | (with_reducible refine Below.trans ?_ (Below.mono HW6.out ?_)) | (with_reducible refine Below.trans ?_ (Below.mono HW7.out ?_)) | (with_reducible exact Nat.le_refl _) | omega | (simp only [World.size_alloc, World.size_setCell, World.size_drew, size_drewN]; omega) | (simp; done) | (simp; omega))) HB.out.size)⟩
  · have HT : Hid (taxS s x = (0, 1)) := if_neg hok
    have ht : taxedS s x = (0, 1) := if_neg hok
    rw [ht] at HTX
    go_enter Try.func25, Try.ntmps25
    go_wp2_with fail
    refine HTX.out.mono ?_; rintro e w1 ⟨rfl, hw1⟩
    have HW1 := Lib.hid (HB0.out.trans (hw1.mono (by simp)))
    clear hw1
    go_wp2_with fail
    go_ret2
    exact ⟨ret_pr HT.out, HW1.out⟩
end Go.Proofs.Ytilcgpaefkapaaa
