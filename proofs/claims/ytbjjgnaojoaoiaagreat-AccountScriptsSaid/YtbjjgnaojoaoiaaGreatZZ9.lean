/- Laws. -/
import Derived.Test.YtbjjgnaojoaoiaaGreatZZ7
import Derived.Deep.DeepCutAuto
import Derived.Deep.CutBlock
namespace Go.Proofs.YtbjjgnaojoaoiaaGreat
open Go.RowKit Go
set_option linter.unusedVariables false
set_option linter.unusedSimpArgs false
set_option maxHeartbeats 1600000
set_option maxRecDepth 100000
theorem of_neg1 (w : World) : Calls Tryz.prog 16 #[.int .i64 (-1)] w fun e w' => e = .returned (wd true 1) ∧ Below w.heap.size w w' := of_any (-1) w (by omega)
def DivAt (w : World) (n : Bool) (m c : Int) (T D : Nat) (i r : Value) (wr : World) : Prop :=
 ∃ (j : Nat) (K R : Int), j ≤ 128 ∧ i = .int .i64 ((j : Int) - 1) ∧ r = .int .u64 R ∧ 0 ≤ R ∧ R < c ∧ 0 ≤ K ∧ Hid (m / 2 ^ j = K * c + R) ∧
 Hid (wr.heap[w.heap.size]? = some (.cells #[.bool n, .int .u64 (dg 0 m), .int .u64 (dg 1 m), .int .u64 (dg 2 m), .int .u64 (dg 3 m)] T (0, 0)) ∧
 wr.heap[w.heap.size + 1]? = some (.cells #[.bool false, .int .u64 0, .int .u64 0, .int .u64 0, .int .u64 0] T (0, 0)) ∧
 (∃ s, s = K * 2 ^ j ∧ wr.heap[w.heap.size + 1 + 1]? = some (.cells #[.int .u64 (dg 0 s), .int .u64 (dg 1 s), .int .u64 (dg 2 s), .int .u64 (dg 3 s)] D (0, 0)))) ∧
 Below w.heap.size w wr ∧ w.heap.size + 1 + 1 < wr.heap.size
theorem div_start (w : World) (n : Bool) (m c : Int) (T D : Nat) (hm : 0 ≤ m ∧ m < big) (hc : 1 ≤ c) : DivAt w n m c T D (.int .i64 127) (.int .u64 0)
  (((w.alloc (.cells #[.bool n, .int .u64 (dg 0 m), .int .u64 (dg 1 m), .int .u64 (dg 2 m), .int .u64 (dg 3 m)] T)).alloc (.cells #[.bool false, .int .u64 0, .int .u64 0, .int .u64 0, .int .u64 0] T)).alloc (.cells #[.int .u64 0, .int .u64 0, .int .u64 0, .int .u64 0] D)) := by
 have e0 : dg 0 0 = 0 ∧ dg 1 0 = 0 ∧ dg 2 0 = 0 ∧ dg 3 0 = 0 := by decide
 refine ⟨128, 0, 0, by omega, rfl, rfl, by omega, by omega, by omega, ?_, ⟨?_, ?_, ⟨0, by simp, ?_⟩⟩, bly, by simp⟩
 · show _ = _
   rw [show (2 : Int) ^ 128 = big by unfold big; rfl, Int.ediv_eq_zero_of_lt hm.1 hm.2]; omega
 · exact blk_alloc (blk_alloc (blk_new w _ rfl) _) _
 · exact blk_alloc (blk_new _ _ (by simp)) _
 · rw [e0.1, e0.2.1, e0.2.2.1, e0.2.2.2]; exact blk_new _ _ (by simp)
theorem q_le {m c K R : Int} {j : Nat} (hm : 0 ≤ m) (hc : 1 ≤ c) (hR : 0 ≤ R) (hK : 0 ≤ K) (h : Hid (m / 2 ^ j = K * c + R)) : 0 ≤ K * 2 ^ j ∧ K * 2 ^ j ≤ m := by
 have p : (0 : Int) < 2 ^ j := Int.pow_pos (by omega)
 refine ⟨Int.mul_nonneg hK (by omega), ?_⟩
 have h1 : K ≤ m / 2 ^ j := by
  rw [h.out]
  have : K * 1 ≤ K * c := Int.mul_le_mul_of_nonneg_left hc hK
  omega
 have := (Int.le_ediv_iff_mul_le p).1 h1
 exact this
theorem wdiv_loop_bit {m c K R : Int} {d e : Nat} (hd : d ≤ 3) (he : e < 32) (hm : 0 ≤ m) (h : Hid (m / 2 ^ (32 * d + e + 1) = K * c + R)) :
  ∃ b P S : Int, Hid (dg d m / P = S) ∧ 0 ≤ S ∧ Hid (S % 2 = b) ∧ (0 ≤ b ∧ b ≤ 1) ∧ Hid (2 ^ e = P) ∧ 0 ≤ P ∧ Hid (m / 2 ^ (32 * d + e) = 2 * (K * c + R) + b) ∧ Hid ((2 : Int) ^ (32 * d + e) = P * wt d) := by
 refine ⟨dg d m / 2 ^ e % 2, 2 ^ e, dg d m / 2 ^ e, rfl, Int.ediv_nonneg (dg_bd d m).1 (Int.le_of_lt (Int.pow_pos (by omega))), rfl, by omega, rfl, Int.le_of_lt (Int.pow_pos (by omega)), ?_, ?_⟩
 · show _ = _
   rw [bit_dg hd he, ← h.out]; exact half_pow m _ hm
 · show _ = _
   rw [wt_pow, ← Int.pow_add, Nat.add_comm]
theorem div_hid {p : Prop} (h : p) : Hid p := h
theorem quo_rem {p q r c : Int} (h : p = q * c + r) (h0 : 0 ≤ r) (h1 : r < c) : p / c = q ∧ p % c = r := by
 have hc : 0 < c := by omega
 have a := (Int.le_ediv_iff_mul_le hc).2 (show q * c ≤ p by omega)
 have b := (Int.ediv_lt_iff_lt_mul (a := p) (b := q + 1) hc).2 (by rw [Int.add_mul]; omega)
 have e : p / c = q := by omega
 refine ⟨e, ?_⟩
 have := Int.mul_ediv_add_emod p c
 rw [e, Int.mul_comm] at this; omega
theorem far5 {w : World} {g g' : Nat} {o : Obj} (h : w.heap[g]? = some o) (hp : g ≠ g') (u0 u1 u2 u3 u4 : Value) : (((((w.setCell ⟨g', 0, none⟩ u0).setCell ⟨g', 1, none⟩ u1).setCell ⟨g', 2, none⟩ u2).setCell ⟨g', 3, none⟩ u3).setCell ⟨g', 4, none⟩ u4).heap[g]? = some o :=
 blk_far (p := ⟨g', 4, none⟩) (blk_far (p := ⟨g', 3, none⟩) (blk_far (p := ⟨g', 2, none⟩) (blk_far (p := ⟨g', 1, none⟩) (blk_far (p := ⟨g', 0, none⟩) h hp _) hp _) hp _) hp _) hp _
def DivEnd (w : World) (n : Bool) (m c : Int) (T D : Nat) (r : Value) (wr : World) : Prop :=
 r = .int .u64 (m % c) ∧ Hid (wr.heap[w.heap.size]? = some (.cells #[.bool n, .int .u64 (dg 0 m), .int .u64 (dg 1 m), .int .u64 (dg 2 m), .int .u64 (dg 3 m)] T (0, 0)) ∧
 wr.heap[w.heap.size + 1]? = some (.cells #[.bool false, .int .u64 0, .int .u64 0, .int .u64 0, .int .u64 0] T (0, 0)) ∧
 wr.heap[w.heap.size + 1 + 1]? = some (.cells #[.int .u64 (dg 0 (m / c)), .int .u64 (dg 1 (m / c)), .int .u64 (dg 2 (m / c)), .int .u64 (dg 3 (m / c))] D (0, 0))) ∧
 Below w.heap.size w wr ∧ w.heap.size + 1 + 1 < wr.heap.size
theorem div_end {w : World} {n : Bool} {m c K R : Int} {T D : Nat} {wr : World} (hR0 : 0 ≤ R) (hR1 : R < c) (HK : Hid (m / 2 ^ 0 = K * c + R))
  (HB : Hid (wr.heap[w.heap.size]? = some (.cells #[.bool n, .int .u64 (dg 0 m), .int .u64 (dg 1 m), .int .u64 (dg 2 m), .int .u64 (dg 3 m)] T (0, 0)) ∧
    wr.heap[w.heap.size + 1]? = some (.cells #[.bool false, .int .u64 0, .int .u64 0, .int .u64 0, .int .u64 0] T (0, 0)) ∧
    (∃ s, s = K * 2 ^ 0 ∧ wr.heap[w.heap.size + 1 + 1]? = some (.cells #[.int .u64 (dg 0 s), .int .u64 (dg 1 s), .int .u64 (dg 2 s), .int .u64 (dg 3 s)] D (0, 0)))))
  (hbw : Below w.heap.size w wr) (hsz : w.heap.size + 1 + 1 < wr.heap.size) : DivEnd w n m c T D (.int .u64 R) wr := by
 have hm : m = K * c + R := by have := HK.out; simpa using this
 obtain ⟨e1, e2⟩ := quo_rem hm hR0 hR1
 obtain ⟨h0, h1, s, hs, h3⟩ := HB.out
 rw [show s = m / c by rw [hs, e1]; simp] at h3
 exact ⟨by rw [e2], ⟨h0, h1, h3⟩, hbw, hsz⟩
def DivRes (n : Bool) (m c : Int) (w : World) (e : Ending) (w' : World) : Prop :=
 (∃ n' q, e = .returned (.tuple #[wd n' q, .int .i64 (wz n m % c)]) ∧ 0 ≤ q ∧ q ≤ m ∧ Hid (wz n' q = wz n m / c)) ∧ Below w.heap.size w w'
theorem floor_plain {n : Bool} {m c : Int} (hm : 0 ≤ m) (hc : 1 ≤ c) (h : ¬ (n = true ∧ 0 < m % c)) : wz n (m / c) = wz n m / c ∧ m % c = wz n m % c := by
 cases n
 · exact ⟨rfl, rfl⟩
 · have h0 : m % c = 0 := by
     have := Int.emod_nonneg m (show c ≠ 0 by omega)
     have : ¬ 0 < m % c := fun g => h ⟨rfl, g⟩
     omega
   have e := Int.mul_ediv_add_emod m c
   obtain ⟨f1, f2⟩ := quo_rem (p := -m) (q := -(m / c)) (r := 0) (c := c) (by rw [Int.neg_mul, Int.mul_comm]; omega) (by omega) (by omega)
   simp only [wz, if_pos]
   exact ⟨f1.symm, by rw [f2, h0]⟩
theorem floor_up {m c : Int} (hm : 0 ≤ m) (hc : 1 ≤ c) (h : 0 < m % c) : -(m / c) + -1 = wz true m / c ∧ c - m % c = wz true m % c ∧ m / c + 1 ≤ m := by
 have e := Int.mul_ediv_add_emod m c
 have h1 := Int.emod_lt_of_pos m (show 0 < c by omega)
 obtain ⟨f1, f2⟩ := quo_rem (p := -m) (q := -(m / c) + -1) (r := c - m % c) (c := c) (by rw [Int.add_mul, Int.neg_mul, Int.mul_comm (m / c)]; omega) (by omega) (by omega)
 have h2 : 0 ≤ m / c := Int.ediv_nonneg hm (by omega)
 have h3 : m / c * 1 ≤ m / c * c := Int.mul_le_mul_of_nonneg_left hc h2
 have h4 : m / c * c = c * (m / c) := Int.mul_comm _ _
 simp only [wz, if_pos]
 exact ⟨f1.symm, f2.symm, by omega⟩
theorem wdiv_any (n : Bool) (m c : Int) (w : World) (hm0 : 0 ≤ m) (hm1 : m < big) (hc0 : 1 ≤ c) (hc1 : c ≤ 4611686018427387904) :
  Calls Tryz.prog 159 #[wd n m, .int .i64 c] w (DivRes n m c w) := by
 go_enter Tryz.func159, Tryz.ntmps159
 go_upto_block 0 with fail
 go_cut [7] (fun s7 wc => DivEnd w n m c 47 45 s7 wc)
 case first =>
  go_wp2_with fail
  go_loopw [8, 7] (fun i r wr => DivAt w n m c 47 45 i r wr) (fun i _ _ => (intOf i + 1).toNat)
  case atStart => exact div_start w n m c _ _ ⟨hm0, hm1⟩ hc0
  case round =>
   obtain ⟨j, K, R, hj, rfl, rfl, hR0, hR1, hK, HK, HB, hbw, hsz⟩ := hrel
   rcases j with _ | i
   · have e1 : ((0 : Nat) : Int) - 1 = -1 := rfl
     rw [e1]; clear e1
     go_wp2_with fail
     go_meet
     exact div_end hR0 hR1 HK HB hbw hsz
   · obtain ⟨d, e, hd, he, hi⟩ : ∃ d e : Nat, d ≤ 3 ∧ e < 32 ∧ i = 32 * d + e := ⟨i / 32, i % 32, by omega, by omega, by omega⟩
     subst hi
     obtain ⟨b, P, S, HSS, hS0, Hb, hb, HP, hP0, HM, HW⟩ := wdiv_loop_bit hd he hm0 HK
     obtain ⟨h0, h1, s, hs, h3⟩ := HB.out
     have hroom := dg_room hd he K hK
     rw [← hs, HP.out] at hroom
     have hdb := dg_bd d s
     have hq := q_le hm0 hc0 hR0 hK HK
     rw [← hs] at hq
     have HS := hyd hs; clear hs
     obtain ⟨I, hI⟩ : ∃ I : Int, ((32 * d + e + 1 : Nat) : Int) - 1 = I := ⟨_, rfl⟩
     rw [hI]
     have hI0 : 0 ≤ I ∧ I ≤ 127 := by omega
     have qe : I % 32 = (e : Int) := by omega
     have qd : I / 32 = (d : Int) := by omega
     have HI := hyd hI; clear hI
     obtain ⟨c0, c1, c2, c3, c4, c5⟩ := blk5 h0
     obtain ⟨e0, e1, e2, e3, e4⟩ := cells4 h3
     clear h0 h1 h3 c5
     have qb := Hb.out
     have qs := HSS.out
     have qp := HP.out
     have h23 : d = 0 ∨ d = 1 ∨ d = 2 ∨ d = 3 := by omega
     rcases h23 with rfl | rfl | rfl | rfl
     · have qd : I / 32 = 0 := qd
       by_cases hge : c ≤ 2 * R + b
       · go_wp2_with fail
         refine ⟨⟨32 * 0 + e, 2 * K + 1, 2 * R + b - c, by omega, ?_, rfl, by omega, by omega, by omega, div_hid ((div_step HM.out hb ⟨hR0, hR1⟩).1 hge), ?_, ?_, ?_⟩, by first | (simp [intOf]; done) | (simp [intOf]; omega)⟩
         · have := HI.out; rw [show I - 1 = ((32 * 0 + e : Nat) : Int) - 1 by omega]
         · have hb3 := HB.out
           obtain ⟨h0, h1, s', hs', h3⟩ := hb3
           rw [← HS.out] at hs'; rw [hs'] at h3
           obtain ⟨f0, f1, f2, f3⟩ := dg_add0 (Q := s) (P := P) hq.1 (by omega) hP0 hroom
           refine ⟨blk_far h0 (by show w.heap.size ≠ w.heap.size + 1 + 1; omega) _, blk_far h1 (by show w.heap.size + 1 ≠ w.heap.size + 1 + 1; omega) _, (2 * K + 1) * 2 ^ (32 * 0 + e), rfl, ?_⟩
           rw [show (2 * K + 1) * 2 ^ (32 * 0 + e) = s + P * wt 0 by rw [HS.out, Int.add_mul, Int.one_mul, HW.out, Int.pow_succ, HW.out, Int.mul_comm 2 K, Int.mul_assoc K 2, Int.mul_comm 2], f0, f1, f2, f3]
           exact blk_set h3 _ _
         · exact hbw.setCell (p := ⟨w.heap.size + 1 + 1, 0, none⟩) (by show w.heap.size ≤ w.heap.size + 1 + 1; omega) _
         · simp only [World.size_setCell]; exact hsz
       · go_wp2_with fail
         refine ⟨⟨32 * 0 + e, 2 * K, 2 * R + b, by omega, ?_, rfl, by omega, by omega, by omega, div_hid ((div_step HM.out hb ⟨hR0, hR1⟩).2 (by omega)), ?_, ?_, ?_⟩, by first | (simp [intOf]; done) | (simp [intOf]; omega)⟩
         · have := HI.out; rw [show I - 1 = ((32 * 0 + e : Nat) : Int) - 1 by omega]
         · have hb3 := HB.out
           obtain ⟨h0, h1, s', hs', h3⟩ := hb3
           refine ⟨h0, h1, s', ?_, h3⟩
           rw [hs', Int.pow_succ, ← Int.mul_assoc, Int.mul_comm (K * _) 2, Int.mul_assoc 2]
         · exact hbw
         · exact hsz
     · have qd : I / 32 = 1 := qd
       by_cases hge : c ≤ 2 * R + b
       · go_wp2_with fail
         refine ⟨⟨32 * 1 + e, 2 * K + 1, 2 * R + b - c, by omega, ?_, rfl, by omega, by omega, by omega, div_hid ((div_step HM.out hb ⟨hR0, hR1⟩).1 hge), ?_, ?_, ?_⟩, by first | (simp [intOf]; done) | (simp [intOf]; omega)⟩
         · have := HI.out; rw [show I - 1 = ((32 * 1 + e : Nat) : Int) - 1 by omega]
         · have hb3 := HB.out
           obtain ⟨h0, h1, s', hs', h3⟩ := hb3
           rw [← HS.out] at hs'; rw [hs'] at h3
           obtain ⟨f0, f1, f2, f3⟩ := dg_add1 (Q := s) (P := P) hq.1 (by omega) hP0 hroom
           refine ⟨blk_far h0 (by show w.heap.size ≠ w.heap.size + 1 + 1; omega) _, blk_far h1 (by show w.heap.size + 1 ≠ w.heap.size + 1 + 1; omega) _, (2 * K + 1) * 2 ^ (32 * 1 + e), rfl, ?_⟩
           rw [show (2 * K + 1) * 2 ^ (32 * 1 + e) = s + P * wt 1 by rw [HS.out, Int.add_mul, Int.one_mul, HW.out, Int.pow_succ, HW.out, Int.mul_comm 2 K, Int.mul_assoc K 2, Int.mul_comm 2], f0, f1, f2, f3]
           exact blk_set h3 _ _
         · exact hbw.setCell (p := ⟨w.heap.size + 1 + 1, 1, none⟩) (by show w.heap.size ≤ w.heap.size + 1 + 1; omega) _
         · simp only [World.size_setCell]; exact hsz
       · go_wp2_with fail
         refine ⟨⟨32 * 1 + e, 2 * K, 2 * R + b, by omega, ?_, rfl, by omega, by omega, by omega, div_hid ((div_step HM.out hb ⟨hR0, hR1⟩).2 (by omega)), ?_, ?_, ?_⟩, by first | (simp [intOf]; done) | (simp [intOf]; omega)⟩
         · have := HI.out; rw [show I - 1 = ((32 * 1 + e : Nat) : Int) - 1 by omega]
         · have hb3 := HB.out
           obtain ⟨h0, h1, s', hs', h3⟩ := hb3
           refine ⟨h0, h1, s', ?_, h3⟩
           rw [hs', Int.pow_succ, ← Int.mul_assoc, Int.mul_comm (K * _) 2, Int.mul_assoc 2]
         · exact hbw
         · exact hsz
     · have qd : I / 32 = 2 := qd
       by_cases hge : c ≤ 2 * R + b
       · go_wp2_with fail
         refine ⟨⟨32 * 2 + e, 2 * K + 1, 2 * R + b - c, by omega, ?_, rfl, by omega, by omega, by omega, div_hid ((div_step HM.out hb ⟨hR0, hR1⟩).1 hge), ?_, ?_, ?_⟩, by first | (simp [intOf]; done) | (simp [intOf]; omega)⟩
         · have := HI.out; rw [show I - 1 = ((32 * 2 + e : Nat) : Int) - 1 by omega]
         · have hb3 := HB.out
           obtain ⟨h0, h1, s', hs', h3⟩ := hb3
           rw [← HS.out] at hs'; rw [hs'] at h3
           obtain ⟨f0, f1, f2, f3⟩ := dg_add2 (Q := s) (P := P) hq.1 (by omega) hP0 hroom
           refine ⟨blk_far h0 (by show w.heap.size ≠ w.heap.size + 1 + 1; omega) _, blk_far h1 (by show w.heap.size + 1 ≠ w.heap.size + 1 + 1; omega) _, (2 * K + 1) * 2 ^ (32 * 2 + e), rfl, ?_⟩
           rw [show (2 * K + 1) * 2 ^ (32 * 2 + e) = s + P * wt 2 by rw [HS.out, Int.add_mul, Int.one_mul, HW.out, Int.pow_succ, HW.out, Int.mul_comm 2 K, Int.mul_assoc K 2, Int.mul_comm 2], f0, f1, f2, f3]
           exact blk_set h3 _ _
         · exact hbw.setCell (p := ⟨w.heap.size + 1 + 1, 2, none⟩) (by show w.heap.size ≤ w.heap.size + 1 + 1; omega) _
         · simp only [World.size_setCell]; exact hsz
       · go_wp2_with fail
         refine ⟨⟨32 * 2 + e, 2 * K, 2 * R + b, by omega, ?_, rfl, by omega, by omega, by omega, div_hid ((div_step HM.out hb ⟨hR0, hR1⟩).2 (by omega)), ?_, ?_, ?_⟩, by first | (simp [intOf]; done) | (simp [intOf]; omega)⟩
         · have := HI.out; rw [show I - 1 = ((32 * 2 + e : Nat) : Int) - 1 by omega]
         · have hb3 := HB.out
           obtain ⟨h0, h1, s', hs', h3⟩ := hb3
           refine ⟨h0, h1, s', ?_, h3⟩
           rw [hs', Int.pow_succ, ← Int.mul_assoc, Int.mul_comm (K * _) 2, Int.mul_assoc 2]
         · exact hbw
         · exact hsz
     · have qd : I / 32 = 3 := qd
       by_cases hge : c ≤ 2 * R + b
       · go_wp2_with fail
         refine ⟨⟨32 * 3 + e, 2 * K + 1, 2 * R + b - c, by omega, ?_, rfl, by omega, by omega, by omega, div_hid ((div_step HM.out hb ⟨hR0, hR1⟩).1 hge), ?_, ?_, ?_⟩, by first | (simp [intOf]; done) | (simp [intOf]; omega)⟩
         · have := HI.out; rw [show I - 1 = ((32 * 3 + e : Nat) : Int) - 1 by omega]
         · have hb3 := HB.out
           obtain ⟨h0, h1, s', hs', h3⟩ := hb3
           rw [← HS.out] at hs'; rw [hs'] at h3
           obtain ⟨f0, f1, f2, f3⟩ := dg_add3 (Q := s) (P := P) hq.1 (by omega) hP0 hroom
           refine ⟨blk_far h0 (by show w.heap.size ≠ w.heap.size + 1 + 1; omega) _, blk_far h1 (by show w.heap.size + 1 ≠ w.heap.size + 1 + 1; omega) _, (2 * K + 1) * 2 ^ (32 * 3 + e), rfl, ?_⟩
           rw [show (2 * K + 1) * 2 ^ (32 * 3 + e) = s + P * wt 3 by rw [HS.out, Int.add_mul, Int.one_mul, HW.out, Int.pow_succ, HW.out, Int.mul_comm 2 K, Int.mul_assoc K 2, Int.mul_comm 2], f0, f1, f2, f3]
           exact blk_set h3 _ _
         · exact hbw.setCell (p := ⟨w.heap.size + 1 + 1, 3, none⟩) (by show w.heap.size ≤ w.heap.size + 1 + 1; omega) _
         · simp only [World.size_setCell]; exact hsz
       · go_wp2_with fail
         refine ⟨⟨32 * 3 + e, 2 * K, 2 * R + b, by omega, ?_, rfl, by omega, by omega, by omega, div_hid ((div_step HM.out hb ⟨hR0, hR1⟩).2 (by omega)), ?_, ?_, ?_⟩, by first | (simp [intOf]; done) | (simp [intOf]; omega)⟩
         · have := HI.out; rw [show I - 1 = ((32 * 3 + e : Nat) : Int) - 1 by omega]
         · have hb3 := HB.out
           obtain ⟨h0, h1, s', hs', h3⟩ := hb3
           refine ⟨h0, h1, s', ?_, h3⟩
           rw [hs', Int.pow_succ, ← Int.mul_assoc, Int.mul_comm (K * _) 2, Int.mul_assoc 2]
         · exact hbw
         · exact hsz
 case rest =>
  obtain ⟨rfl, HB, hbw, hsz⟩ := hcut
  have HBW := hyd hbw; clear hbw
  obtain ⟨h0, h1, h3⟩ := HB.out
  have hs0 : w.heap.size < wc.heap.size := by omega
  have hs1 : w.heap.size + 1 < wc.heap.size := by omega
  obtain ⟨c0, c1, c2, c3, c4, c5⟩ := blk5 h0
  obtain ⟨d0, d1, d2, d3, d4, d5⟩ := blk5 h1
  obtain ⟨e0, e1, e2, e3, e4⟩ := cells4 h3
  clear h0 h1 h3 c5 e4
  have hn1 : wc.heap.size ≠ w.heap.size + 1 := by omega
  have hn2 : w.heap.size + 1 ≠ wc.heap.size := by omega
  have hq0 : 0 ≤ m / c := Int.ediv_nonneg hm0 (by omega)
  have hq1 : m / c ≤ m := by
   have e := Int.mul_ediv_add_emod m c
   have g := Int.emod_nonneg m (show c ≠ 0 by omega)
   have h3 : m / c * 1 ≤ m / c * c := Int.mul_le_mul_of_nonneg_left hc0 hq0
   have h4 : m / c * c = c * (m / c) := Int.mul_comm _ _
   omega
  obtain ⟨R, hR⟩ : ∃ R, m % c = R := ⟨_, rfl⟩
  have hR0 : 0 ≤ R := by rw [← hR]; exact Int.emod_nonneg m (by omega)
  have hR1 : R < c := by rw [← hR]; exact Int.emod_lt_of_pos m (by omega)
  rw [hR]
  have HR := hyd hR; clear hR
  by_cases hn : n = true ∧ 0 < R
  · obtain ⟨rfl, hRp⟩ := hn
    have HF := hyd (floor_up hm0 hc0 (show 0 < m % c by rw [HR.out]; exact hRp))
    go_wp2_with (go_at_call 16; refine (of_neg1 _).mono ?_; rintro e w1 ⟨rfl, hw1⟩; have HG := hyd (blk_below (blk_new wc (.cells #[.bool true, .int .u64 (dg 0 (m / c)), .int .u64 (dg 1 (m / c)), .int .u64 (dg 2 (m / c)), .int .u64 (dg 3 (m / c))] 47) rfl) hw1 (by simp)); have HR1 := hyd (blk_below (blk_alloc HB.out.2.1 _) hw1 (by simp; omega)); have hz1 := hw1.size; simp only [World.size_alloc, Nat.add_one_le_iff] at hz1; have HW1 := hyd hw1; clear hw1; clear c0 c1 c2 c3 c4 d0 d1 d2 d3 d4 d5 e0 e1 e2 e3; obtain ⟨c0, c1, c2, c3, c4, c5⟩ := blk5 HG.out)
    refine (wadd_any true true (m / c) 1 _ hq0 (by omega) (by have := HF.out.2.2; omega)).mono ?_
    intro e w2 h2; obtain ⟨n2, m2, rfl, hm20, hm21, hwz2, hw2⟩ := Wide.pre h2; clear h2
    have g1 := blk_below (blk_alloc HG.out _) hw2 (by simp; omega)
    have g2 := blk_below (blk_alloc HR1.out _) hw2 (by simp; omega)
    have hz2 := hw2.size
    simp only [World.size_alloc, Nat.add_one_le_iff] at hz2
    clear c0 c1 c2 c3 c4 c5
    obtain ⟨c0, c1, c2, c3, c4, c5⟩ := blk5 g1
    have HW2 := hyd hw2
    have G1 := hyd g1; have G2 := hyd g2
    clear g1 g2 hw2
    go_upto_region 15 with fail
    have x1 := set5_blk G1.out (.bool n2) (.int .u64 (dg 0 m2)) (.int .u64 (dg 1 m2)) (.int .u64 (dg 2 m2)) (.int .u64 (dg 3 m2))
    have x2 := far5 G2.out hn2 (.bool n2) (.int .u64 (dg 0 m2)) (.int .u64 (dg 1 m2)) (.int .u64 (dg 2 m2)) (.int .u64 (dg 3 m2))
    have hw3 : Below w.heap.size w (((((w2.setCell ⟨wc.heap.size, 0, none⟩ (.bool n2)).setCell ⟨wc.heap.size, 1, none⟩ (.int .u64 (dg 0 m2))).setCell ⟨wc.heap.size, 2, none⟩ (.int .u64 (dg 1 m2))).setCell ⟨wc.heap.size, 3, none⟩ (.int .u64 (dg 2 m2))).setCell ⟨wc.heap.size, 4, none⟩ (.int .u64 (dg 3 m2))) := by
     have := HBW.out.size
     repeat' (first | (with_reducible first | exact Below.refl _ _ | refine Below.alloc ?_ ?_ _ | refine below_drewN ?_ _ | refine Below.drew ?_ | refine Below.setCell ?_ ?_ _ | refine bltm ?_ HBW.out ?_ | refine bltm ?_ HW1.out ?_ | refine bltm ?_ HW2.out ?_ | refine bltm ?_ HW3.out ?_ | exact Nat.le_refl _) | omega | (simp only [szA, szS, szD, size_drewN]; omega) | (simp; done) | (simp; omega))
    clear c0 c1 c2 c3 c4 c5
    generalize (((((w2.setCell ⟨wc.heap.size, 0, none⟩ (.bool n2)).setCell ⟨wc.heap.size, 1, none⟩ (.int .u64 (dg 0 m2))).setCell ⟨wc.heap.size, 2, none⟩ (.int .u64 (dg 1 m2))).setCell ⟨wc.heap.size, 3, none⟩ (.int .u64 (dg 2 m2))).setCell ⟨wc.heap.size, 4, none⟩ (.int .u64 (dg 3 m2))) = w3 at x1 x2 hw3 ⊢
    obtain ⟨c0, c1, c2, c3, c4, c5⟩ := blk5 x1
    obtain ⟨d0, d1, d2, d3, d4, d5⟩ := blk5 x2
    have HW3 := hyd hw3
    clear x1 x2 hw3
    go_wp2_with fail
    refine bodyPost_ret (v := .tuple #[wd n2 m2, .int .i64 (c - R)]) (by simp [results, Tryz.results159, go_sem, d0, d1, d2, d3, d4]) rfl ?_
    obtain ⟨f1, f2, f3⟩ := HF.out
    refine ⟨⟨n2, m2, by rw [← f2, HR.out], hm20, by omega, ?_⟩, ?_⟩
    · show _ = _; rw [hwz2.out, ← f1]; simp [wz]
    · have hb := HW3.out
      repeat' (first | (with_reducible first | exact Below.refl _ _ | exact hb | refine Below.alloc ?_ ?_ _ | refine below_drewN ?_ _ | refine Below.drew ?_ | refine Below.setCell ?_ ?_ _ | refine bltm ?_ HBW.out ?_ | refine bltm ?_ HW1.out ?_ | refine bltm ?_ HW2.out ?_ | refine bltm ?_ HW3.out ?_ | exact Nat.le_refl _) | omega | (simp only [szA, szS, szD, size_drewN]; omega) | (simp; done) | (simp; omega))
  · have HF := hyd (floor_plain hm0 hc0 (n := n) (by rw [HR.out]; exact hn))
    have hg : (n && decide (0 < R)) = false := by
     cases n
     · rfl
     · have : ¬ 0 < R := fun g => hn ⟨rfl, g⟩
       simp; omega
    cases n
    · skip
      go_upto_region 16 with fail
      have x1 := blk_new wc (.cells #[.bool false, .int .u64 (dg 0 (m / c)), .int .u64 (dg 1 (m / c)), .int .u64 (dg 2 (m / c)), .int .u64 (dg 3 (m / c))] 47) rfl
      have x2 := blk_alloc HB.out.2.1 (.cells #[.bool false, .int .u64 (dg 0 (m / c)), .int .u64 (dg 1 (m / c)), .int .u64 (dg 2 (m / c)), .int .u64 (dg 3 (m / c))] 47)
      have hw3 := HBW.out.alloc HBW.out.size (.cells #[.bool false, .int .u64 (dg 0 (m / c)), .int .u64 (dg 1 (m / c)), .int .u64 (dg 2 (m / c)), .int .u64 (dg 3 (m / c))] 47)
      clear c0 c1 c2 c3 c4 d0 d1 d2 d3 d4 d5 e0 e1 e2 e3
      generalize wc.alloc (.cells #[.bool false, .int .u64 (dg 0 (m / c)), .int .u64 (dg 1 (m / c)), .int .u64 (dg 2 (m / c)), .int .u64 (dg 3 (m / c))] 47) = w3 at x1 x2 hw3 ⊢
      obtain ⟨c0, c1, c2, c3, c4, c5⟩ := blk5 x1
      obtain ⟨d0, d1, d2, d3, d4, d5⟩ := blk5 x2
      have HW3 := hyd hw3
      clear x1 x2 hw3
      go_wp2_with fail
      refine bodyPost_ret (v := .tuple #[wd false (m / c), .int .i64 R]) (by simp [results, Tryz.results159, go_sem, d0, d1, d2, d3, d4]) rfl ?_
      obtain ⟨f1, f2⟩ := HF.out
      refine ⟨⟨false, m / c, by rw [← f2, HR.out], hq0, hq1, f1⟩, ?_⟩
      have hb := HW3.out
      repeat' (first | (with_reducible first | exact Below.refl _ _ | exact hb | refine Below.alloc ?_ ?_ _ | refine below_drewN ?_ _ | refine Below.drew ?_ | refine Below.setCell ?_ ?_ _ | refine bltm ?_ HBW.out ?_ | refine bltm ?_ HW1.out ?_ | refine bltm ?_ HW2.out ?_ | refine bltm ?_ HW3.out ?_ | exact Nat.le_refl _) | omega | (simp only [szA, szS, szD, size_drewN]; omega) | (simp; done) | (simp; omega))
    · have hR2 : R ≤ 0 := by simpa using hg
      have hR3 : R = 0 := by omega
      subst hR3
      clear hg hn hR0 hR1 hR2
      go_upto_region 16 with fail
      have x1 := blk_new wc (.cells #[.bool true, .int .u64 (dg 0 (m / c)), .int .u64 (dg 1 (m / c)), .int .u64 (dg 2 (m / c)), .int .u64 (dg 3 (m / c))] 47) rfl
      have x2 := blk_alloc HB.out.2.1 (.cells #[.bool true, .int .u64 (dg 0 (m / c)), .int .u64 (dg 1 (m / c)), .int .u64 (dg 2 (m / c)), .int .u64 (dg 3 (m / c))] 47)
      have hw3 := HBW.out.alloc HBW.out.size (.cells #[.bool true, .int .u64 (dg 0 (m / c)), .int .u64 (dg 1 (m / c)), .int .u64 (dg 2 (m / c)), .int .u64 (dg 3 (m / c))] 47)
      clear c0 c1 c2 c3 c4 d0 d1 d2 d3 d4 d5 e0 e1 e2 e3
      generalize wc.alloc (.cells #[.bool true, .int .u64 (dg 0 (m / c)), .int .u64 (dg 1 (m / c)), .int .u64 (dg 2 (m / c)), .int .u64 (dg 3 (m / c))] 47) = w3 at x1 x2 hw3 ⊢
      obtain ⟨c0, c1, c2, c3, c4, c5⟩ := blk5 x1
      obtain ⟨d0, d1, d2, d3, d4, d5⟩ := blk5 x2
      have HW3 := hyd hw3
      clear x1 x2 hw3
      go_wp2_with fail
      refine bodyPost_ret (v := .tuple #[wd true (m / c), .int .i64 0]) (by simp [results, Tryz.results159, go_sem, d0, d1, d2, d3, d4]) rfl ?_
      obtain ⟨f1, f2⟩ := HF.out
      refine ⟨⟨true, m / c, by rw [← f2, HR.out], hq0, hq1, f1⟩, ?_⟩
      have hb := HW3.out
      repeat' (first | (with_reducible first | exact Below.refl _ _ | exact hb | refine Below.alloc ?_ ?_ _ | refine below_drewN ?_ _ | refine Below.drew ?_ | refine Below.setCell ?_ ?_ _ | refine bltm ?_ HBW.out ?_ | refine bltm ?_ HW1.out ?_ | refine bltm ?_ HW2.out ?_ | refine bltm ?_ HW3.out ?_ | exact Nat.le_refl _) | omega | (simp only [szA, szS, szD, size_drewN]; omega) | (simp; done) | (simp; omega))
end Go.Proofs.YtbjjgnaojoaoiaaGreat
