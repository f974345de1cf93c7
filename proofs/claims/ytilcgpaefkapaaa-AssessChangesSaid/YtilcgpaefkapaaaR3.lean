/- the reference's Told, Is, both, Add, Sub. -/
import Derived.Test.YtilcgpaefkapaaaR2
import Derived.Test.YtilcgpaefkapaaaA
namespace Go.Proofs.Ytilcgpaefkapaaa
open Go.RowKit Go
set_option linter.unusedVariables false
set_option linter.unusedSimpArgs false

theorem of_most (w : World) : Calls Try.prog 30 #[.int .i64 4611686018427387904] w fun e w' => e = .returned (wd false 4611686018427387904) ∧ Below w.heap.size w w' := of_any 4611686018427387904 w (by omega)

theorem two_low {m : Int} (h0 : 0 ≤ m) (h1 : m ≤ 18446744073709551615) : dg 0 m + dg 1 m * 4294967296 = m := by
  obtain ⟨e0, e1, _, _⟩ := dg_small h0 h1
  rw [e0, e1]; omega
theorem amt_wz_yes {n : Bool} {m : Int} (h0 : 0 ≤ m) (h : m ≤ 4611686018427387904) : amt (wz n m) = true := by
  cases n <;> simp [amt, wz] <;> omega
theorem amt_wz_no {n : Bool} {m : Int} (h0 : 0 ≤ m) (h : 4611686018427387904 < m) : ¬ amt (wz n m) = true := by
  cases n <;> simp [amt, wz] <;> omega

set_option maxHeartbeats 400000 in
theorem wtold_any (n : Bool) (m : Int) (w : World) (h0 : 0 ≤ m) (h1 : m < big) :
    Calls Try.prog 33 #[wd n m] w fun e w' => e = .returned (pr (told (wz n m))) ∧ Below w.heap.size w w' := by
  have hb1 : 4611686018427387904 < big := by unfold big; omega
  by_cases hm : 4611686018427387904 < m
  · go_enter Try.func33, Try.ntmps33
    go_wp2_with (first
      | (go_at_call 30; refine (of_most _).mono ?_; rintro e w1 ⟨rfl, hw1⟩; obtain ⟨hc1, hf1⟩ := bcell hw1; have hz1 := hw1.size; (try simp only [World.size_alloc, World.size_setCell, World.size_drew, size_drewN, Nat.add_one_le_iff] at hz1); (try have hy1 : w.heap.size < w1.heap.size := by omega); (try have hx1 : w.heap.size + 1 < w1.heap.size := by omega); have HW1 := Lib.hid hw1; clear hw1)
      | (go_at_call 51; refine (lessm 4611686018427387904 m _ (by omega) h0 hb1 h1).mono ?_; rintro e w2 ⟨rfl, hw2⟩; obtain ⟨hc2, hf2⟩ := bcell hw2; have hz2 := hw2.size; (try simp only [World.size_alloc, World.size_setCell, World.size_drew, size_drewN, Nat.add_one_le_iff] at hz2); (try have hy2 : w.heap.size < w2.heap.size := by omega); (try have hx2 : w.heap.size + 1 < w2.heap.size := by omega); have HW2 := Lib.hid hw2; clear hw2))
    go_ret2
    exact ⟨ret_pr (told_no (amt_wz_no h0 hm)), (by repeat' (first | (with_reducible exact Below.refl _ _) | (with_reducible refine Below.alloc ?_ ?_ _) | (with_reducible refine below_drewN ?_ _) | (with_reducible refine Below.drew ?_) | (with_reducible refine Below.setCell ?_ ?_ _) | (with_reducible refine Below.trans ?_ (Below.mono HW0.out ?_)) | (with_reducible refine Below.trans ?_ (Below.mono HW1.out ?_)) | (with_reducible refine Below.trans ?_ (Below.mono HW2.out ?_)) | (with_reducible refine Below.trans ?_ (Below.mono HW3.out ?_)) | (with_reducible refine Below.trans ?_ (Below.mono HW4.out ?_)) | (with_reducible refine Below.trans ?_ (Below.mono HW5.out ?_)) | (with_reducible refine Below.trans ?_ (Below.mono HW6.out ?_)) | (with_reducible refine Below.trans ?_ (Below.mono HW7.out ?_)) | (with_reducible exact Nat.le_refl _) | omega | (simp only [World.size_alloc, World.size_setCell, World.size_drew, size_drewN]; omega) | (simp; done) | (simp; omega)))⟩
  · have hl := two_low h0 (show m ≤ 18446744073709551615 by omega)
    have hd0 := dg_bd 0 m; have hd1 := dg_bd 1 m
    have hb2 : dg 0 m + dg 1 m * 4294967296 ≤ 4611686018427387904 := by omega
    have HL := Lib.hid hl; clear hl
    cases n
    all_goals
      go_enter Try.func33, Try.ntmps33
      go_wp2_with (first
        | (go_at_call 30; refine (of_most _).mono ?_; rintro e w1 ⟨rfl, hw1⟩; obtain ⟨hc1, hf1⟩ := bcell hw1; have hz1 := hw1.size; (try simp only [World.size_alloc, World.size_setCell, World.size_drew, size_drewN, Nat.add_one_le_iff] at hz1); (try have hy1 : w.heap.size < w1.heap.size := by omega); (try have hx1 : w.heap.size + 1 < w1.heap.size := by omega); have HW1 := Lib.hid hw1; clear hw1)
        | (go_at_call 51; refine (lessm 4611686018427387904 m _ (by omega) h0 hb1 h1).mono ?_; rintro e w2 ⟨rfl, hw2⟩; obtain ⟨hc2, hf2⟩ := bcell hw2; have hz2 := hw2.size; (try simp only [World.size_alloc, World.size_setCell, World.size_drew, size_drewN, Nat.add_one_le_iff] at hz2); (try have hy2 : w.heap.size < w2.heap.size := by omega); (try have hx2 : w.heap.size + 1 < w2.heap.size := by omega); have HW2 := Lib.hid hw2; clear hw2))
      go_ret2
    · exact ⟨ret_pr (by rw [HL.out]; exact told_yes (amt_wz_yes h0 (by omega))), (by repeat' (first | (with_reducible exact Below.refl _ _) | (with_reducible refine Below.alloc ?_ ?_ _) | (with_reducible refine below_drewN ?_ _) | (with_reducible refine Below.drew ?_) | (with_reducible refine Below.setCell ?_ ?_ _) | (with_reducible refine Below.trans ?_ (Below.mono HW0.out ?_)) | (with_reducible refine Below.trans ?_ (Below.mono HW1.out ?_)) | (with_reducible refine Below.trans ?_ (Below.mono HW2.out ?_)) | (with_reducible refine Below.trans ?_ (Below.mono HW3.out ?_)) | (with_reducible refine Below.trans ?_ (Below.mono HW4.out ?_)) | (with_reducible refine Below.trans ?_ (Below.mono HW5.out ?_)) | (with_reducible refine Below.trans ?_ (Below.mono HW6.out ?_)) | (with_reducible refine Below.trans ?_ (Below.mono HW7.out ?_)) | (with_reducible exact Nat.le_refl _) | omega | (simp only [World.size_alloc, World.size_setCell, World.size_drew, size_drewN]; omega) | (simp; done) | (simp; omega)))⟩
    · exact ⟨ret_pr (by rw [HL.out]; exact told_yes (amt_wz_yes h0 (by omega))), (by repeat' (first | (with_reducible exact Below.refl _ _) | (with_reducible refine Below.alloc ?_ ?_ _) | (with_reducible refine below_drewN ?_ _) | (with_reducible refine Below.drew ?_) | (with_reducible refine Below.setCell ?_ ?_ _) | (with_reducible refine Below.trans ?_ (Below.mono HW0.out ?_)) | (with_reducible refine Below.trans ?_ (Below.mono HW1.out ?_)) | (with_reducible refine Below.trans ?_ (Below.mono HW2.out ?_)) | (with_reducible refine Below.trans ?_ (Below.mono HW3.out ?_)) | (with_reducible refine Below.trans ?_ (Below.mono HW4.out ?_)) | (with_reducible refine Below.trans ?_ (Below.mono HW5.out ?_)) | (with_reducible refine Below.trans ?_ (Below.mono HW6.out ?_)) | (with_reducible refine Below.trans ?_ (Below.mono HW7.out ?_)) | (with_reducible exact Nat.le_refl _) | omega | (simp only [World.size_alloc, World.size_setCell, World.size_drew, size_drewN]; omega) | (simp; done) | (simp; omega)))⟩

theorem Wide.pre {w0 w' : World} {z L : Int} {e : Ending} (h : Wide z L w0 e w') : ∃ n m, e = .returned (wd n m) ∧ 0 ≤ m ∧ m ≤ L ∧ Hid (wz n m = z) ∧ Below w0.heap.size w0 w' := by
  obtain ⟨⟨n, m, h1, h2, h3, h4⟩, h5⟩ := h
  exact ⟨n, m, h1, h2, h3, h4, h5⟩
theorem amt_abs {a : Int} (h : amt a = true) : (a.natAbs : Int) ≤ 4611686018427387904 := by have := amt_yes h; omega
theorem wz_of (a : Int) : wz (decide (a < 0)) a.natAbs = a := by
  by_cases h : a < 0 <;> simp [wz, h] <;> omega

theorem wz_neg (a : Int) : wz (decide (0 < a)) a.natAbs = -a := by
  by_cases h : 0 < a <;> simp [wz, h] <;> omega

theorem blk5 {w1 : World} {v0 v1 v2 v3 v4 : Value} {t g : Nat} (h : w1.heap[g]? = some (.cells #[v0, v1, v2, v3, v4] t (0, 0))) :
    w1.cell? ⟨g, 0, none⟩ = some v0 ∧ w1.cell? ⟨g, 1, none⟩ = some v1 ∧ w1.cell? ⟨g, 2, none⟩ = some v2 ∧ w1.cell? ⟨g, 3, none⟩ = some v3 ∧ w1.cell? ⟨g, 4, none⟩ = some v4 ∧ ∀ i, w1.frozen? ⟨g, i, none⟩ = false := by
  simp [World.cell?, World.frozen?, h]
theorem set5_blk {w1 : World} {v0 v1 v2 v3 v4 : Value} {t g : Nat} (h : w1.heap[g]? = some (.cells #[v0, v1, v2, v3, v4] t (0, 0))) (u0 u1 u2 u3 u4 : Value) :
    (((((w1.setCell ⟨g, 0, none⟩ u0).setCell ⟨g, 1, none⟩ u1).setCell ⟨g, 2, none⟩ u2).setCell ⟨g, 3, none⟩ u3).setCell ⟨g, 4, none⟩ u4).heap[g]? = some (.cells #[u0, u1, u2, u3, u4] t (0, 0)) := by
  simp [World.setCell, Array.getElem?_modify, h]
theorem sum_snoc (zs : List Int) (k : Nat) (h : k < zs.length) : (zs.take (k + 1)).sum = (zs.take k).sum + zs[k] := by
  rw [List.take_succ_eq_append_getElem h, List.sum_append, List.sum_cons, List.sum_nil, Int.add_zero]

/-- Behind k rounds of Sum. -/
def SumAt (zs : List Int) (w : World) (t : Nat) (i : Value) (wr : World) : Prop := ∃ (k : Nat) (n : Bool) (m : Int), k ≤ zs.length ∧ i = .int .i64 k ∧
  Hid (wr.heap[w.heap.size]? = some (.cells #[.bool n, .int .u64 (dg 0 m), .int .u64 (dg 1 m), .int .u64 (dg 2 m), .int .u64 (dg 3 m)] t (0, 0))) ∧ 0 ≤ m ∧ m ≤ k * 4611686018427387904 ∧
  Hid (wz n m = (zs.take k).sum) ∧ Hid ((zs.take k).all amt = true) ∧ Below w.heap.size w wr ∧ w.heap.size < wr.heap.size

end Go.Proofs.Ytilcgpaefkapaaa
