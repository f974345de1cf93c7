/- the reference's product. -/
import Derived.Test.YtilcgpaefkapaaaR3
namespace Go.Proofs.Ytilcgpaefkapaaa
open Go.RowKit Go
set_option linter.unusedVariables false
set_option linter.unusedSimpArgs false

theorem plus_v (a0 a1 a2 a3 b0 b1 b2 b3 A B : Int) (w : World) (ha0 : 0 ≤ a0 ∧ a0 ≤ 4294967295) (ha1 : 0 ≤ a1 ∧ a1 ≤ 4294967295) (ha2 : 0 ≤ a2 ∧ a2 ≤ 4294967295) (ha3 : 0 ≤ a3 ∧ a3 ≤ 4294967295)
    (hb0 : 0 ≤ b0 ∧ b0 ≤ 4294967295) (hb1 : 0 ≤ b1 ∧ b1 ≤ 4294967295) (hb2 : 0 ≤ b2 ∧ b2 ≤ 4294967295) (hb3 : 0 ≤ b3 ∧ b3 ≤ 4294967295) (hA : V a0 a1 a2 a3 = A) (hB : V b0 b1 b2 b3 = B) (h : A + B < big) :
    Calls Try.prog 50 #[d4 a0 a1 a2 a3, d4 b0 b1 b2 b3] w fun e w' => e = .returned (dm (A + B)) ∧ Below w.heap.size w w' := by
  obtain ⟨e0, e1, e2, e3⟩ := dg_V ha0 ha1 ha2 ha3
  obtain ⟨f0, f1, f2, f3⟩ := dg_V hb0 hb1 hb2 hb3
  have hA0 : 0 ≤ A := by rw [← hA]; unfold V; omega
  have hB0 : 0 ≤ B := by rw [← hB]; unfold V; omega
  have := plusm A B w hA0 hB0 h
  rw [← hA, ← hB] at this ⊢
  unfold dm at this
  rw [e0, e1, e2, e3, f0, f1, f2, f3] at this
  exact this

/-- The product's sums, behind so many of the four digits' products. -/
def st (p q r s : Int) (n : Int) : Int := if n = 0 then 0 else if n = 1 then p else if n = 2 then p + q * 4294967296 else if n = 3 then p + q * 4294967296 + r * 4294967296 else p + q * 4294967296 + r * 4294967296 + s * 18446744073709551616
theorem st_all (a b : Int) (ha : 0 ≤ a ∧ a ≤ 18446744073709551615) (hb : 0 ≤ b ∧ b ≤ 18446744073709551615) : st (dg 0 a * dg 0 b) (dg 0 a * dg 1 b) (dg 1 a * dg 0 b) (dg 1 a * dg 1 b) 4 = a * b := by
  have e1 := two_low ha.1 ha.2
  have e2 := two_low hb.1 hb.2
  have h : (dg 0 a + dg 1 a * 4294967296) * (dg 0 b + dg 1 b * 4294967296) = dg 0 a * dg 0 b + dg 0 a * dg 1 b * 4294967296 + dg 1 a * dg 0 b * 4294967296 + dg 1 a * dg 1 b * 18446744073709551616 := by
    rw [Int.add_mul, Int.mul_add, Int.mul_add, ← Int.mul_assoc, show dg 1 a * 4294967296 * dg 0 b = dg 1 a * dg 0 b * 4294967296 by rw [Int.mul_assoc, Int.mul_comm 4294967296, ← Int.mul_assoc],
      show dg 1 a * 4294967296 * (dg 1 b * 4294967296) = dg 1 a * dg 1 b * 18446744073709551616 by rw [Int.mul_assoc, Int.mul_comm 4294967296, ← Int.mul_assoc, ← Int.mul_assoc, Int.mul_assoc (dg 1 a * dg 1 b)]; rfl]
    omega
  rw [e1, e2] at h
  rw [h]; simp [st]
theorem st_bd {p q r s n : Int} (hp : 0 ≤ p ∧ p ≤ 18446744065119617025) (hq : 0 ≤ q ∧ q ≤ 18446744065119617025) (hr : 0 ≤ r ∧ r ≤ 18446744065119617025) (hs : 0 ≤ s ∧ s ≤ 18446744065119617025) : 0 ≤ st p q r s n ∧ st p q r s n < big := by
  unfold st big; repeat' split
  all_goals omega

theorem mul_bd2 {q a : Int} (hq : 0 ≤ q ∧ q ≤ 4294967295) (ha : 0 ≤ a ∧ a ≤ 4294967295) : 0 ≤ q * a ∧ q * a ≤ 18446744065119617025 := by
  refine ⟨Int.mul_nonneg hq.1 ha.1, Int.le_trans (Int.mul_le_mul_of_nonneg_left ha.2 hq.1) ?_⟩
  omega

/-- Behind n products: the sum's block, and the arguments' ones. -/
def MulAt (w : World) (n1 n2 : Bool) (a b : Int) (T D : Nat) (n : Int) (wr : World) : Prop :=
  wr.heap[w.heap.size]? = some (.cells #[.bool n1, .int .u64 (dg 0 a), .int .u64 (dg 1 a), .int .u64 (dg 2 a), .int .u64 (dg 3 a)] T (0, 0)) ∧
  wr.heap[w.heap.size + 1]? = some (.cells #[.bool n2, .int .u64 (dg 0 b), .int .u64 (dg 1 b), .int .u64 (dg 2 b), .int .u64 (dg 3 b)] T (0, 0)) ∧
  wr.heap[w.heap.size + 1 + 1]? = some (.cells #[.bool false, .int .u64 0, .int .u64 0, .int .u64 0, .int .u64 0] T (0, 0)) ∧
  (∃ s, s = st (dg 0 a * dg 0 b) (dg 0 a * dg 1 b) (dg 1 a * dg 0 b) (dg 1 a * dg 1 b) n ∧ wr.heap[w.heap.size + 1 + 1 + 1]? = some (.cells #[.int .u64 (dg 0 s), .int .u64 (dg 1 s), .int .u64 (dg 2 s), .int .u64 (dg 3 s)] D (0, 0))) ∧
  Below w.heap.size w wr ∧ w.heap.size + 1 + 1 + 1 < wr.heap.size

theorem heap_at1 (w : World) (a : Obj) : (w.alloc a).heap[w.heap.size]? = some a := heap_alloc_new w a
theorem mul_start (w : World) (n1 n2 : Bool) (a b : Int) (T D : Nat) : MulAt w n1 n2 a b T D 0
    ((((w.alloc (.cells #[.bool n1, .int .u64 (dg 0 a), .int .u64 (dg 1 a), .int .u64 (dg 2 a), .int .u64 (dg 3 a)] T)).alloc (.cells #[.bool n2, .int .u64 (dg 0 b), .int .u64 (dg 1 b), .int .u64 (dg 2 b), .int .u64 (dg 3 b)] T)).alloc (.cells #[.bool false, .int .u64 0, .int .u64 0, .int .u64 0, .int .u64 0] T)).alloc (.cells #[.int .u64 0, .int .u64 0, .int .u64 0, .int .u64 0] D)) := by
  have e0 : dg 0 0 = 0 ∧ dg 1 0 = 0 ∧ dg 2 0 = 0 ∧ dg 3 0 = 0 := by decide
  refine ⟨?_, ?_, ?_, ⟨0, rfl, ?_⟩, (by repeat' (first | (with_reducible exact Below.refl _ _) | (with_reducible refine Below.alloc ?_ ?_ _) | (with_reducible refine below_drewN ?_ _) | (with_reducible refine Below.drew ?_) | (with_reducible refine Below.setCell ?_ ?_ _) | (with_reducible refine Below.trans ?_ (Below.mono HW0.out ?_)) | (with_reducible refine Below.trans ?_ (Below.mono HW1.out ?_)) | (with_reducible refine Below.trans ?_ (Below.mono HW2.out ?_)) | (with_reducible refine Below.trans ?_ (Below.mono HW3.out ?_)) | (with_reducible refine Below.trans ?_ (Below.mono HW4.out ?_)) | (with_reducible refine Below.trans ?_ (Below.mono HW5.out ?_)) | (with_reducible refine Below.trans ?_ (Below.mono HW6.out ?_)) | (with_reducible refine Below.trans ?_ (Below.mono HW7.out ?_)) | (with_reducible exact Nat.le_refl _) | omega | (simp only [World.size_alloc, World.size_setCell, World.size_drew, size_drewN]; omega) | (simp; done) | (simp; omega))), by simp⟩
  · exact blk_alloc (blk_alloc (blk_alloc (blk_new w _ rfl) _) _) _
  · exact blk_alloc (blk_alloc (blk_new _ _ (by simp)) _) _
  · exact blk_alloc (blk_new _ _ (by simp)) _
  · rw [e0.1, e0.2.1, e0.2.2.1, e0.2.2.2]; exact blk_new _ _ (by simp)
theorem cells4 {w1 : World} {v0 v1 v2 v3 : Value} {t g : Nat} (h : w1.heap[g]? = some (.cells #[v0, v1, v2, v3] t (0, 0))) :
    w1.cell? ⟨g, 0, none⟩ = some v0 ∧ w1.cell? ⟨g, 1, none⟩ = some v1 ∧ w1.cell? ⟨g, 2, none⟩ = some v2 ∧ w1.cell? ⟨g, 3, none⟩ = some v3 ∧ ∀ i, w1.frozen? ⟨g, i, none⟩ = false := by
  simp [World.cell?, World.frozen?, h]
theorem set4_blk {w1 : World} {v0 v1 v2 v3 : Value} {t g : Nat} (h : w1.heap[g]? = some (.cells #[v0, v1, v2, v3] t (0, 0))) (u0 u1 u2 u3 : Value) :
    ((((w1.setCell ⟨g, 0, none⟩ u0).setCell ⟨g, 1, none⟩ u1).setCell ⟨g, 2, none⟩ u2).setCell ⟨g, 3, none⟩ u3).heap[g]? = some (.cells #[u0, u1, u2, u3] t (0, 0)) := by
  simp [World.setCell, Array.getElem?_modify, h]

theorem mfar {w : World} {g g' : Nat} {o : Obj} (h : w.heap[g]? = some o) (hp : g ≠ g') (u0 u1 u2 u3 : Value) : ((((w.setCell ⟨g', 0, none⟩ u0).setCell ⟨g', 1, none⟩ u1).setCell ⟨g', 2, none⟩ u2).setCell ⟨g', 3, none⟩ u3).heap[g]? = some o :=
  blk_far (p := ⟨g', 3, none⟩) (blk_far (p := ⟨g', 2, none⟩) (blk_far (p := ⟨g', 1, none⟩) (blk_far (p := ⟨g', 0, none⟩) h hp _) hp _) hp _) hp _
theorem mbelow {w w1 : World} {B g' : Nat} (h : Below B w w1) (hp : B ≤ g') (u0 u1 u2 u3 : Value) : Below B w ((((w1.setCell ⟨g', 0, none⟩ u0).setCell ⟨g', 1, none⟩ u1).setCell ⟨g', 2, none⟩ u2).setCell ⟨g', 3, none⟩ u3) :=
  (((h.setCell (p := ⟨g', 0, none⟩) hp _).setCell (p := ⟨g', 1, none⟩) hp _).setCell (p := ⟨g', 2, none⟩) hp _).setCell (p := ⟨g', 3, none⟩) hp _

set_option maxHeartbeats 1600000 in
theorem wmul_any (n1 n2 : Bool) (a b : Int) (w : World) (ha : 0 ≤ a ∧ a ≤ 18446744073709551615) (hb : 0 ≤ b ∧ b ≤ 18446744073709551615) :
    Calls Try.prog 31 #[wd n1 a, wd n2 b] w fun e w' => e = .returned (wd (n1 != n2) (a * b)) ∧ Below w.heap.size w w' := by
  have a0 := dg_bd 0 a; have a1 := dg_bd 1 a; have b0 := dg_bd 0 b; have b1 := dg_bd 1 b
  have p00 := mul_bd2 a0 b0; have p01 := mul_bd2 a0 b1; have p10 := mul_bd2 a1 b0; have p11 := mul_bd2 a1 b1
  have hall := Lib.hid (st_all a b ha hb)
  go_enter Try.func31, Try.ntmps31
  go_wp2_with fail
  go_loopw [6] (fun i wr => ∃ I : Int, (I = 0 ∨ I = 1 ∨ I = 2) ∧ i = .int .i64 I ∧ MulAt w n1 n2 a b 58 56 (2 * I) wr) (fun i _ => (2 - intOf i).toNat)
  case atStart => exact ⟨0, by omega, rfl, mul_start w n1 n2 a b _ _⟩
  case round =>
    obtain ⟨I, hI, rfl, hM⟩ := hrel
    have HM := Lib.hid hM; clear hM
    rcases hI with rfl | rfl | rfl
    · go_wp2_with fail
      obtain ⟨wo, rfl⟩ : ∃ wo : World, wo = wr := ⟨_, rfl⟩
      go_loopw [7, 8, 9] (fun k _ _ wr => ∃ K : Int, (K = 0 ∨ K = 1 ∨ K = 2) ∧ k = .int .i64 K ∧ MulAt w n1 n2 a b 58 56 (2 * 0 + K) wr) (fun k _ _ _ => (2 - intOf k).toNat)
      case atStart => exact ⟨0, by omega, rfl, HM.out⟩
      case round =>
        obtain ⟨K, hK, rfl, hM⟩ := hrel
        clear HM
        have HM := Lib.hid hM; clear hM
        rcases hK with rfl | rfl | rfl
        · have hM : MulAt w n1 n2 a b 58 56 0 wr := HM.out
          obtain ⟨h0, h1, h2, ⟨s, hs, h3⟩, hbw, hsz⟩ := hM
          have HS : Hid (s = st (dg 0 a * dg 0 b) (dg 0 a * dg 1 b) (dg 1 a * dg 0 b) (dg 1 a * dg 1 b) 0) := hs
          clear hs
          obtain ⟨c0, c1, c2, c3, c4, c5⟩ := blk5 h0
          obtain ⟨d0, d1, d2, d3, d4, d5⟩ := blk5 h1
          have H0 := Lib.hid h0; have H1 := Lib.hid h1; have H2 := Lib.hid h2; have H3 := Lib.hid h3; have HB := Lib.hid hbw
          clear h0 h1 h2 h3 hbw c5 d5
          have hsb := st_bd (n := 0) p00 p01 p10 p11
          rw [← HS.out] at hsb
          have hnb := st_bd (n := 1) p00 p01 p10 p11
          have hst : st (dg 0 a * dg 0 b) (dg 0 a * dg 1 b) (dg 1 a * dg 0 b) (dg 1 a * dg 1 b) 1 = s + V (dg 0 a * dg 0 b % 4294967296) (dg 0 a * dg 0 b / 4294967296) 0 0 := by
            rw [HS.out]; unfold st V; simp; try omega
          have HST := Lib.hid hst; clear hst
          have HNB := Lib.hid hnb; clear hnb
          go_wp2_with fail
          go_quiet (fail)
          have K0 := Lib.hid (show (wr.drewN nq).heap[_]? = _ from H0.out); have K1 := Lib.hid (show (wr.drewN nq).heap[_]? = _ from H1.out); have K2 := Lib.hid (show (wr.drewN nq).heap[_]? = _ from H2.out); have K3 := Lib.hid (show (wr.drewN nq).heap[_]? = _ from H3.out)
          have KB := Lib.hid (below_drewN HB.out nq)
          have hsx : w.heap.size + 1 + 1 + 1 < (wr.drewN nq).heap.size := hsz
          clear H0 H1 H2 H3 HB hsz c0 c1 c2 c3 c4 d0 d1 d2 d3 d4 HM
          generalize wr.drewN nq = wx at *
          have hx0 : w.heap.size < wx.heap.size := by omega
          have hx1 : w.heap.size + 1 < wx.heap.size := by omega
          have hx2 : w.heap.size + 1 + 1 < wx.heap.size := by omega
          obtain ⟨e0, e1, e2, e3, e4⟩ := cells4 K3.out
          go_wp2_with (go_at_call 50; refine (plus_v (dg 0 s) (dg 1 s) (dg 2 s) (dg 3 s) (dg 0 a * dg 0 b % 4294967296) (dg 0 a * dg 0 b / 4294967296) 0 0 s (V (dg 0 a * dg 0 b % 4294967296) (dg 0 a * dg 0 b / 4294967296) 0 0) _ (dg_bd _ _) (dg_bd _ _) (dg_bd _ _) (dg_bd _ _) (by omega) (by omega) (by omega) (by omega) (V_dg hsb.1 hsb.2) rfl (by rw [← HST.out]; exact HNB.out.2)).mono ?_; rintro e w1 ⟨rfl, hw1⟩; rw [← HST.out]; have hbx : Below wx.heap.size wx w1 := Below.trans (by repeat' (first | (with_reducible exact Below.refl _ _) | (with_reducible refine Below.alloc ?_ ?_ _) | (with_reducible refine below_drewN ?_ _) | (with_reducible refine Below.drew ?_) | (with_reducible refine Below.setCell ?_ ?_ _) | (with_reducible refine Below.trans ?_ (Below.mono HW0.out ?_)) | (with_reducible refine Below.trans ?_ (Below.mono HW1.out ?_)) | (with_reducible refine Below.trans ?_ (Below.mono HW2.out ?_)) | (with_reducible refine Below.trans ?_ (Below.mono HW3.out ?_)) | (with_reducible refine Below.trans ?_ (Below.mono HW4.out ?_)) | (with_reducible refine Below.trans ?_ (Below.mono HW5.out ?_)) | (with_reducible refine Below.trans ?_ (Below.mono HW6.out ?_)) | (with_reducible refine Below.trans ?_ (Below.mono HW7.out ?_)) | (with_reducible exact Nat.le_refl _) | omega | (simp only [World.size_alloc, World.size_setCell, World.size_drew, size_drewN]; omega) | (simp; done) | (simp; omega))) (hw1.mono (by simp only [World.size_alloc, World.size_setCell]; omega)); clear hw1; clear e0 e1 e2 e3 e4; have g3 := blk_below K3.out hbx hsx; obtain ⟨e0, e1, e2, e3, e4⟩ := cells4 g3; have G0 := Lib.hid (blk_below K0.out hbx hx0); have G1 := Lib.hid (blk_below K1.out hbx hx1); have G2 := Lib.hid (blk_below K2.out hbx hx2); have G3 := Lib.hid g3; have GB := Lib.hid (KB.out.trans (hbx.mono (by omega))); have hsy := Nat.lt_of_lt_of_le hsx hbx.size; clear g3 hbx)
          refine ⟨⟨1, by omega, by go_num, ?_⟩, by first | (simp [intOf]; done) | (simp [intOf]; omega)⟩
          exact ⟨mfar G0.out (by omega) _ _ _ _, mfar G1.out (by omega) _ _ _ _, mfar G2.out (by omega) _ _ _ _, ⟨_, rfl, set4_blk G3.out _ _ _ _⟩, mbelow GB.out (by omega) _ _ _ _, by simp only [World.size_setCell]; exact hsy⟩
        · have hM : MulAt w n1 n2 a b 58 56 1 wr := HM.out
          obtain ⟨h0, h1, h2, ⟨s, hs, h3⟩, hbw, hsz⟩ := hM
          have HS : Hid (s = st (dg 0 a * dg 0 b) (dg 0 a * dg 1 b) (dg 1 a * dg 0 b) (dg 1 a * dg 1 b) 1) := hs
          clear hs
          obtain ⟨c0, c1, c2, c3, c4, c5⟩ := blk5 h0
          obtain ⟨d0, d1, d2, d3, d4, d5⟩ := blk5 h1
          have H0 := Lib.hid h0; have H1 := Lib.hid h1; have H2 := Lib.hid h2; have H3 := Lib.hid h3; have HB := Lib.hid hbw
          clear h0 h1 h2 h3 hbw c5 d5
          have hsb := st_bd (n := 1) p00 p01 p10 p11
          rw [← HS.out] at hsb
          have hnb := st_bd (n := 2) p00 p01 p10 p11
          have hst : st (dg 0 a * dg 0 b) (dg 0 a * dg 1 b) (dg 1 a * dg 0 b) (dg 1 a * dg 1 b) 2 = s + V 0 (dg 0 a * dg 1 b % 4294967296) (dg 0 a * dg 1 b / 4294967296) 0 := by
            rw [HS.out]; unfold st V; simp; try omega
          have HST := Lib.hid hst; clear hst
          have HNB := Lib.hid hnb; clear hnb
          go_wp2_with fail
          go_quiet (fail)
          have K0 := Lib.hid (show (wr.drewN nq).heap[_]? = _ from H0.out); have K1 := Lib.hid (show (wr.drewN nq).heap[_]? = _ from H1.out); have K2 := Lib.hid (show (wr.drewN nq).heap[_]? = _ from H2.out); have K3 := Lib.hid (show (wr.drewN nq).heap[_]? = _ from H3.out)
          have KB := Lib.hid (below_drewN HB.out nq)
          have hsx : w.heap.size + 1 + 1 + 1 < (wr.drewN nq).heap.size := hsz
          clear H0 H1 H2 H3 HB hsz c0 c1 c2 c3 c4 d0 d1 d2 d3 d4 HM
          generalize wr.drewN nq = wx at *
          have hx0 : w.heap.size < wx.heap.size := by omega
          have hx1 : w.heap.size + 1 < wx.heap.size := by omega
          have hx2 : w.heap.size + 1 + 1 < wx.heap.size := by omega
          obtain ⟨e0, e1, e2, e3, e4⟩ := cells4 K3.out
          go_wp2_with (go_at_call 50; refine (plus_v (dg 0 s) (dg 1 s) (dg 2 s) (dg 3 s) 0 (dg 0 a * dg 1 b % 4294967296) (dg 0 a * dg 1 b / 4294967296) 0 s (V 0 (dg 0 a * dg 1 b % 4294967296) (dg 0 a * dg 1 b / 4294967296) 0) _ (dg_bd _ _) (dg_bd _ _) (dg_bd _ _) (dg_bd _ _) (by omega) (by omega) (by omega) (by omega) (V_dg hsb.1 hsb.2) rfl (by rw [← HST.out]; exact HNB.out.2)).mono ?_; rintro e w1 ⟨rfl, hw1⟩; rw [← HST.out]; have hbx : Below wx.heap.size wx w1 := Below.trans (by repeat' (first | (with_reducible exact Below.refl _ _) | (with_reducible refine Below.alloc ?_ ?_ _) | (with_reducible refine below_drewN ?_ _) | (with_reducible refine Below.drew ?_) | (with_reducible refine Below.setCell ?_ ?_ _) | (with_reducible refine Below.trans ?_ (Below.mono HW0.out ?_)) | (with_reducible refine Below.trans ?_ (Below.mono HW1.out ?_)) | (with_reducible refine Below.trans ?_ (Below.mono HW2.out ?_)) | (with_reducible refine Below.trans ?_ (Below.mono HW3.out ?_)) | (with_reducible refine Below.trans ?_ (Below.mono HW4.out ?_)) | (with_reducible refine Below.trans ?_ (Below.mono HW5.out ?_)) | (with_reducible refine Below.trans ?_ (Below.mono HW6.out ?_)) | (with_reducible refine Below.trans ?_ (Below.mono HW7.out ?_)) | (with_reducible exact Nat.le_refl _) | omega | (simp only [World.size_alloc, World.size_setCell, World.size_drew, size_drewN]; omega) | (simp; done) | (simp; omega))) (hw1.mono (by simp only [World.size_alloc, World.size_setCell]; omega)); clear hw1; clear e0 e1 e2 e3 e4; have g3 := blk_below K3.out hbx hsx; obtain ⟨e0, e1, e2, e3, e4⟩ := cells4 g3; have G0 := Lib.hid (blk_below K0.out hbx hx0); have G1 := Lib.hid (blk_below K1.out hbx hx1); have G2 := Lib.hid (blk_below K2.out hbx hx2); have G3 := Lib.hid g3; have GB := Lib.hid (KB.out.trans (hbx.mono (by omega))); have hsy := Nat.lt_of_lt_of_le hsx hbx.size; clear g3 hbx)
          refine ⟨⟨2, by omega, by go_num, ?_⟩, by first | (simp [intOf]; done) | (simp [intOf]; omega)⟩
          exact ⟨mfar G0.out (by omega) _ _ _ _, mfar G1.out (by omega) _ _ _ _, mfar G2.out (by omega) _ _ _ _, ⟨_, rfl, set4_blk G3.out _ _ _ _⟩, mbelow GB.out (by omega) _ _ _ _, by simp only [World.size_setCell]; exact hsy⟩
        · go_wp2_with fail
          refine ⟨⟨1, by omega, by go_num, HM.out⟩, by first | (simp [intOf]; done) | (simp [intOf]; omega)⟩
    · go_wp2_with fail
      obtain ⟨wo, rfl⟩ : ∃ wo : World, wo = wr := ⟨_, rfl⟩
      go_loopw [7, 8, 9] (fun k _ _ wr => ∃ K : Int, (K = 0 ∨ K = 1 ∨ K = 2) ∧ k = .int .i64 K ∧ MulAt w n1 n2 a b 58 56 (2 * 1 + K) wr) (fun k _ _ _ => (2 - intOf k).toNat)
      case atStart => exact ⟨0, by omega, rfl, HM.out⟩
      case round =>
        obtain ⟨K, hK, rfl, hM⟩ := hrel
        clear HM
        have HM := Lib.hid hM; clear hM
        rcases hK with rfl | rfl | rfl
        · have hM : MulAt w n1 n2 a b 58 56 2 wr := HM.out
          obtain ⟨h0, h1, h2, ⟨s, hs, h3⟩, hbw, hsz⟩ := hM
          have HS : Hid (s = st (dg 0 a * dg 0 b) (dg 0 a * dg 1 b) (dg 1 a * dg 0 b) (dg 1 a * dg 1 b) 2) := hs
          clear hs
          obtain ⟨c0, c1, c2, c3, c4, c5⟩ := blk5 h0
          obtain ⟨d0, d1, d2, d3, d4, d5⟩ := blk5 h1
          have H0 := Lib.hid h0; have H1 := Lib.hid h1; have H2 := Lib.hid h2; have H3 := Lib.hid h3; have HB := Lib.hid hbw
          clear h0 h1 h2 h3 hbw c5 d5
          have hsb := st_bd (n := 2) p00 p01 p10 p11
          rw [← HS.out] at hsb
          have hnb := st_bd (n := 3) p00 p01 p10 p11
          have hst : st (dg 0 a * dg 0 b) (dg 0 a * dg 1 b) (dg 1 a * dg 0 b) (dg 1 a * dg 1 b) 3 = s + V 0 (dg 1 a * dg 0 b % 4294967296) (dg 1 a * dg 0 b / 4294967296) 0 := by
            rw [HS.out]; unfold st V; simp; try omega
          have HST := Lib.hid hst; clear hst
          have HNB := Lib.hid hnb; clear hnb
          go_wp2_with fail
          go_quiet (fail)
          have K0 := Lib.hid (show (wr.drewN nq).heap[_]? = _ from H0.out); have K1 := Lib.hid (show (wr.drewN nq).heap[_]? = _ from H1.out); have K2 := Lib.hid (show (wr.drewN nq).heap[_]? = _ from H2.out); have K3 := Lib.hid (show (wr.drewN nq).heap[_]? = _ from H3.out)
          have KB := Lib.hid (below_drewN HB.out nq)
          have hsx : w.heap.size + 1 + 1 + 1 < (wr.drewN nq).heap.size := hsz
          clear H0 H1 H2 H3 HB hsz c0 c1 c2 c3 c4 d0 d1 d2 d3 d4 HM
          generalize wr.drewN nq = wx at *
          have hx0 : w.heap.size < wx.heap.size := by omega
          have hx1 : w.heap.size + 1 < wx.heap.size := by omega
          have hx2 : w.heap.size + 1 + 1 < wx.heap.size := by omega
          obtain ⟨e0, e1, e2, e3, e4⟩ := cells4 K3.out
          go_wp2_with (go_at_call 50; refine (plus_v (dg 0 s) (dg 1 s) (dg 2 s) (dg 3 s) 0 (dg 1 a * dg 0 b % 4294967296) (dg 1 a * dg 0 b / 4294967296) 0 s (V 0 (dg 1 a * dg 0 b % 4294967296) (dg 1 a * dg 0 b / 4294967296) 0) _ (dg_bd _ _) (dg_bd _ _) (dg_bd _ _) (dg_bd _ _) (by omega) (by omega) (by omega) (by omega) (V_dg hsb.1 hsb.2) rfl (by rw [← HST.out]; exact HNB.out.2)).mono ?_; rintro e w1 ⟨rfl, hw1⟩; rw [← HST.out]; have hbx : Below wx.heap.size wx w1 := Below.trans (by repeat' (first | (with_reducible exact Below.refl _ _) | (with_reducible refine Below.alloc ?_ ?_ _) | (with_reducible refine below_drewN ?_ _) | (with_reducible refine Below.drew ?_) | (with_reducible refine Below.setCell ?_ ?_ _) | (with_reducible refine Below.trans ?_ (Below.mono HW0.out ?_)) | (with_reducible refine Below.trans ?_ (Below.mono HW1.out ?_)) | (with_reducible refine Below.trans ?_ (Below.mono HW2.out ?_)) | (with_reducible refine Below.trans ?_ (Below.mono HW3.out ?_)) | (with_reducible refine Below.trans ?_ (Below.mono HW4.out ?_)) | (with_reducible refine Below.trans ?_ (Below.mono HW5.out ?_)) | (with_reducible refine Below.trans ?_ (Below.mono HW6.out ?_)) | (with_reducible refine Below.trans ?_ (Below.mono HW7.out ?_)) | (with_reducible exact Nat.le_refl _) | omega | (simp only [World.size_alloc, World.size_setCell, World.size_drew, size_drewN]; omega) | (simp; done) | (simp; omega))) (hw1.mono (by simp only [World.size_alloc, World.size_setCell]; omega)); clear hw1; clear e0 e1 e2 e3 e4; have g3 := blk_below K3.out hbx hsx; obtain ⟨e0, e1, e2, e3, e4⟩ := cells4 g3; have G0 := Lib.hid (blk_below K0.out hbx hx0); have G1 := Lib.hid (blk_below K1.out hbx hx1); have G2 := Lib.hid (blk_below K2.out hbx hx2); have G3 := Lib.hid g3; have GB := Lib.hid (KB.out.trans (hbx.mono (by omega))); have hsy := Nat.lt_of_lt_of_le hsx hbx.size; clear g3 hbx)
          refine ⟨⟨1, by omega, by go_num, ?_⟩, by first | (simp [intOf]; done) | (simp [intOf]; omega)⟩
          exact ⟨mfar G0.out (by omega) _ _ _ _, mfar G1.out (by omega) _ _ _ _, mfar G2.out (by omega) _ _ _ _, ⟨_, rfl, set4_blk G3.out _ _ _ _⟩, mbelow GB.out (by omega) _ _ _ _, by simp only [World.size_setCell]; exact hsy⟩
        · have hM : MulAt w n1 n2 a b 58 56 3 wr := HM.out
          obtain ⟨h0, h1, h2, ⟨s, hs, h3⟩, hbw, hsz⟩ := hM
          have HS : Hid (s = st (dg 0 a * dg 0 b) (dg 0 a * dg 1 b) (dg 1 a * dg 0 b) (dg 1 a * dg 1 b) 3) := hs
          clear hs
          obtain ⟨c0, c1, c2, c3, c4, c5⟩ := blk5 h0
          obtain ⟨d0, d1, d2, d3, d4, d5⟩ := blk5 h1
          have H0 := Lib.hid h0; have H1 := Lib.hid h1; have H2 := Lib.hid h2; have H3 := Lib.hid h3; have HB := Lib.hid hbw
          clear h0 h1 h2 h3 hbw c5 d5
          have hsb := st_bd (n := 3) p00 p01 p10 p11
          rw [← HS.out] at hsb
          have hnb := st_bd (n := 4) p00 p01 p10 p11
          have hst : st (dg 0 a * dg 0 b) (dg 0 a * dg 1 b) (dg 1 a * dg 0 b) (dg 1 a * dg 1 b) 4 = s + V 0 0 (dg 1 a * dg 1 b % 4294967296) (dg 1 a * dg 1 b / 4294967296) := by
            rw [HS.out]; unfold st V; simp; try omega
          have HST := Lib.hid hst; clear hst
          have HNB := Lib.hid hnb; clear hnb
          go_wp2_with fail
          go_quiet (fail)
          have K0 := Lib.hid (show (wr.drewN nq).heap[_]? = _ from H0.out); have K1 := Lib.hid (show (wr.drewN nq).heap[_]? = _ from H1.out); have K2 := Lib.hid (show (wr.drewN nq).heap[_]? = _ from H2.out); have K3 := Lib.hid (show (wr.drewN nq).heap[_]? = _ from H3.out)
          have KB := Lib.hid (below_drewN HB.out nq)
          have hsx : w.heap.size + 1 + 1 + 1 < (wr.drewN nq).heap.size := hsz
          clear H0 H1 H2 H3 HB hsz c0 c1 c2 c3 c4 d0 d1 d2 d3 d4 HM
          generalize wr.drewN nq = wx at *
          have hx0 : w.heap.size < wx.heap.size := by omega
          have hx1 : w.heap.size + 1 < wx.heap.size := by omega
          have hx2 : w.heap.size + 1 + 1 < wx.heap.size := by omega
          obtain ⟨e0, e1, e2, e3, e4⟩ := cells4 K3.out
          go_wp2_with (go_at_call 50; refine (plus_v (dg 0 s) (dg 1 s) (dg 2 s) (dg 3 s) 0 0 (dg 1 a * dg 1 b % 4294967296) (dg 1 a * dg 1 b / 4294967296) s (V 0 0 (dg 1 a * dg 1 b % 4294967296) (dg 1 a * dg 1 b / 4294967296)) _ (dg_bd _ _) (dg_bd _ _) (dg_bd _ _) (dg_bd _ _) (by omega) (by omega) (by omega) (by omega) (V_dg hsb.1 hsb.2) rfl (by rw [← HST.out]; exact HNB.out.2)).mono ?_; rintro e w1 ⟨rfl, hw1⟩; rw [← HST.out]; have hbx : Below wx.heap.size wx w1 := Below.trans (by repeat' (first | (with_reducible exact Below.refl _ _) | (with_reducible refine Below.alloc ?_ ?_ _) | (with_reducible refine below_drewN ?_ _) | (with_reducible refine Below.drew ?_) | (with_reducible refine Below.setCell ?_ ?_ _) | (with_reducible refine Below.trans ?_ (Below.mono HW0.out ?_)) | (with_reducible refine Below.trans ?_ (Below.mono HW1.out ?_)) | (with_reducible refine Below.trans ?_ (Below.mono HW2.out ?_)) | (with_reducible refine Below.trans ?_ (Below.mono HW3.out ?_)) | (with_reducible refine Below.trans ?_ (Below.mono HW4.out ?_)) | (with_reducible refine Below.trans ?_ (Below.mono HW5.out ?_)) | (with_reducible refine Below.trans ?_ (Below.mono HW6.out ?_)) | (with_reducible refine Below.trans ?_ (Below.mono HW7.out ?_)) | (with_reducible exact Nat.le_refl _) | omega | (simp only [World.size_alloc, World.size_setCell, World.size_drew, size_drewN]; omega) | (simp; done) | (simp; omega))) (hw1.mono (by simp only [World.size_alloc, World.size_setCell]; omega)); clear hw1; clear e0 e1 e2 e3 e4; have g3 := blk_below K3.out hbx hsx; obtain ⟨e0, e1, e2, e3, e4⟩ := cells4 g3; have G0 := Lib.hid (blk_below K0.out hbx hx0); have G1 := Lib.hid (blk_below K1.out hbx hx1); have G2 := Lib.hid (blk_below K2.out hbx hx2); have G3 := Lib.hid g3; have GB := Lib.hid (KB.out.trans (hbx.mono (by omega))); have hsy := Nat.lt_of_lt_of_le hsx hbx.size; clear g3 hbx)
          refine ⟨⟨2, by omega, by go_num, ?_⟩, by first | (simp [intOf]; done) | (simp [intOf]; omega)⟩
          exact ⟨mfar G0.out (by omega) _ _ _ _, mfar G1.out (by omega) _ _ _ _, mfar G2.out (by omega) _ _ _ _, ⟨_, rfl, set4_blk G3.out _ _ _ _⟩, mbelow GB.out (by omega) _ _ _ _, by simp only [World.size_setCell]; exact hsy⟩
        · go_wp2_with fail
          refine ⟨⟨2, by omega, by go_num, HM.out⟩, by first | (simp [intOf]; done) | (simp [intOf]; omega)⟩
    · have hM : MulAt w n1 n2 a b 58 56 4 wr := HM.out
      obtain ⟨h0, h1, h2, ⟨s, hs, h3⟩, hbw, hsz⟩ := hM
      rw [hall.out] at hs
      subst hs
      obtain ⟨c0, c1, c2, c3, c4, c5⟩ := blk5 h0
      obtain ⟨d0, d1, d2, d3, d4, d5⟩ := blk5 h1
      obtain ⟨f0, f1, f2, f3, f4, f5⟩ := blk5 h2
      obtain ⟨e0, e1, e2, e3, e4⟩ := cells4 h3
      have HB := Lib.hid hbw
      clear h0 h1 h2 h3 hbw c5 d5 hall
      go_wp2_with fail
      refine bodyPost_ret (v := wd (n1 != n2) (a * b)) (by simp [results, Try.results31, go_sem, f0, f1, f2, f3, f4]; cases n1 <;> cases n2 <;> rfl) rfl ⟨rfl, ?_⟩
      have hbw := HB.out
      exact ((((hbw.setCell (p := ⟨w.heap.size + 1 + 1, 0, none⟩) (by show w.heap.size ≤ w.heap.size + 1 + 1; omega) _).setCell (p := ⟨w.heap.size + 1 + 1, 1, none⟩) (by show w.heap.size ≤ w.heap.size + 1 + 1; omega) _).setCell (p := ⟨w.heap.size + 1 + 1, 2, none⟩) (by show w.heap.size ≤ w.heap.size + 1 + 1; omega) _).setCell (p := ⟨w.heap.size + 1 + 1, 3, none⟩) (by show w.heap.size ≤ w.heap.size + 1 + 1; omega) _).setCell (p := ⟨w.heap.size + 1 + 1, 4, none⟩) (by show w.heap.size ≤ w.heap.size + 1 + 1; omega) _
end Go.Proofs.Ytilcgpaefkapaaa
