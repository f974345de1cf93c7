/- The reference's Change. -/
import Derived.Test.YtilcgpaefkapaaaAC
import Derived.Test.YtilcgpaefkapaaaAE0
namespace Go.Proofs.Ytilcgpaefkapaaa
open Go.RowKit Go
set_option linter.unusedVariables false
set_option linter.unusedSimpArgs false

theorem bl_eta (b : Bl) : b = ⟨b.tax, b.prin, b.pen, b.exc⟩ := rfl
set_option maxHeartbeats 3200000 in
set_option maxRecDepth 100000 in
theorem rchange_any (A : Option Addr) (n c : Nat) (s : Sch) (a f : Ret) (w : World) (hn : s.bs.length = n) (hr : Rd w w.heap.size 2 A n (brCs s.bs)) :
    Calls Try.prog 18 #[schV A n c s, retV a, retV f] w fun e w' => e = .returned (blR (changeS s a f)) ∧ Below w.heap.size w w' := by
  have hbx := ChBox.start w A n c s a f
  have HRD := Lib.hid ((hr.below hbx.bel).wider hbx.bel.size)
  have hz0 : w.heap.size + 3 < ((((w.alloc (schO A n c s)).alloc (retO a 31)).alloc (retO f 31)).alloc (blO 0 0 0 0)).heap.size := by simp
  have HBX := Lib.hid hbx
  have hba := fun wx h => rbill_any A n c s a wx hn h
  have hbf := fun wx h => rbill_any A n c s f wx hn h
  have HBM := Lib.hid (fun wx h => rbill_any A n c s (a.moved f) wx hn h)
  obtain ⟨ba, ea⟩ : ∃ p, billS s a = p := ⟨_, rfl⟩
  obtain ⟨bf, ef⟩ : ∃ p, billS s f = p := ⟨_, rfl⟩
  rw [ea] at hba; rw [ef] at hbf
  have HEA := Lib.hid ea; have HEF := Lib.hid ef
  obtain ⟨⟨a0, a1, a2, a3⟩, ae⟩ := ba
  obtain ⟨⟨f0, f1, f2, f3⟩, fe⟩ := bf
  have HBA := Lib.hid hba; have HBF := Lib.hid hbf
  have HR0 := Lib.hid hr
  clear hr hbx ea ef hba hbf
  go_enter Try.func18, Try.ntmps18
  go_wp2_with fail
  generalize (((w.alloc (schO A n c s)).alloc (retO a 31)).alloc (retO f 31)).alloc (blO 0 0 0 0) = W at *
  refine (HBA.out W HRD.out).mono ?_; rintro e w1 ⟨rfl, hw1⟩
  have hb1 := HBX.out.up hw1
  have hr1 := (HRD.out.below hw1).wider hw1.size
  have HB1 := Lib.hid (hb1.up (below_new w1 (blO a0 a1 a2 a3)))
  have HR1 := Lib.hid ((hr1.below (below_new w1 (blO a0 a1 a2 a3))).wider (below_new w1 (blO a0 a1 a2 a3)).size)
  have hg1 := heap_alloc_new w1 (blO a0 a1 a2 a3)
  have hz1 : w.heap.size + 3 < w1.heap.size := blk_lt hb1.b3
  have hz10 : w.heap.size < w1.heap.size := by omega
  have hz11 : w.heap.size + 1 < w1.heap.size := by omega
  have hz12 : w.heap.size + 1 + 1 < w1.heap.size := by omega
  obtain ⟨ga, hga⟩ : ∃ ga, ga = w1.heap.size := ⟨_, rfl⟩
  obtain ⟨s0, s1, s2, s3, s4, s5⟩ := cells6 hb1.b0
  obtain ⟨p0, p1, p2, p3, p4⟩ := cells5B (g := w.heap.size + 1 + 1) hb1.b2
  clear hb1 hr1 hw1
  go_wp2_with fail
  rw [← hga] at hg1 hz1 ⊢
  have hzg : ga < (w1.alloc (blO a0 a1 a2 a3)).heap.size := blk_lt hg1
  generalize w1.alloc (blO a0 a1 a2 a3) = W1 at *
  have HG1 := Lib.hid hg1
  clear hz10 hz11 hz12 hga hg1 s0 s1 s2 s3 s4 s5 p0 p1 p2 p3 p4
  refine (HBF.out W1 HR1.out).mono ?_; rintro e w2 ⟨rfl, hw2⟩
  have hb2 := HB1.out.up hw2
  have hr2 := (HR1.out.below hw2).wider hw2.size
  have hg2 := blk_below HG1.out hw2 hzg
  have hz2 : w.heap.size + 3 < w2.heap.size := blk_lt hb2.b3
  have hz20 : w.heap.size < w2.heap.size := by omega
  have hz21 : w.heap.size + 1 < w2.heap.size := by omega
  have hz22 : w.heap.size + 1 + 1 < w2.heap.size := by omega
  have hz23 : w.heap.size + 1 + 1 + 1 < w2.heap.size := by omega
  obtain ⟨s0, s1, s2, s3, s4, s5⟩ := cells6 hb2.b0
  obtain ⟨q0, q1, q2, q3, q4⟩ := cells5B hb2.b1
  obtain ⟨p0, p1, p2, p3, p4⟩ := cells5B (g := w.heap.size + 1 + 1) hb2.b2
  obtain ⟨o0, o1, o2, o3, o4⟩ := cells4B (g := w.heap.size + 1 + 1 + 1) hb2.b3
  have HB2 := Lib.hid (hb2.up (below_new w2 (blO f0 f1 f2 f3)))
  have HR2 := Lib.hid ((hr2.below (below_new w2 (blO f0 f1 f2 f3))).wider (below_new w2 (blO f0 f1 f2 f3)).size)
  have HG2 := Lib.hid (blk_alloc hg2 (blO f0 f1 f2 f3))
  have HX2 := Lib.hid hb2; have HGA2 := Lib.hid hg2
  clear hb2 hr2 hw2 hg2
  by_cases hA : okS s = true ∧ retB a = true
  · by_cases hF : retB f = true
    · obtain ⟨hok, hra⟩ := hA
      have HOK := Lib.hid (okS_yes hok)
      have hea := HEA.out; have hef := HEF.out
      rw [billS_yes HOK.out hra] at hea; rw [billS_yes HOK.out hF] at hef
      obtain ⟨ea1, rfl⟩ := Prod.mk.inj hea
      obtain ⟨_, rfl⟩ := Prod.mk.inj hef
      have HVA : Hid (billV s a = ⟨a0, a1, a2, a3⟩) := ea1
      clear hea hef ea1
      by_cases hO : a.per ≠ f.per ∨ f.filed < a.filed
      · have HC := Lib.hid (change_ord hok hra hF hO)
        by_cases hp : a.per = f.per
        · have hfl : f.filed < a.filed := by rcases hO with h | h; exact absurd hp h; exact h
          have hpp : (a.per != f.per) = false := by simpa using hp
          clear hO hp
          go_wp2_with fail
          refine bodyPost_ret (results_row_tmpB rfl _ _ (w.heap.size + 1 + 1 + 1) 33 #[.int .i64 0, .int .i64 0, .int .i64 0, .int .i64 0] (0, 0) _ (by rfl) (blk_alloc (set4_blkB (g := w.heap.size + 1 + 1 + 1) HX2.out.b3 _ _ _ _) _) Try.underlying33 rfl (by kernel_rfl)) rfl ?_
          have hbs := below_set4 (g := w.heap.size + 1 + 1 + 1) HX2.out.bel (by omega) (.int .i64 0) (.int .i64 0) (.int .i64 0) (.int .i64 0)
          exact ⟨by rw [HC.out]; rfl, hbs.alloc hbs.size _⟩
        · have hpp : (a.per != f.per) = true := by simpa using hp
          clear hO
          go_wp2_with fail
          refine bodyPost_ret (results_row_tmpB rfl _ _ (w.heap.size + 1 + 1 + 1) 33 #[.int .i64 0, .int .i64 0, .int .i64 0, .int .i64 0] (0, 0) _ (by rfl) (blk_alloc (set4_blkB (g := w.heap.size + 1 + 1 + 1) HX2.out.b3 _ _ _ _) _) Try.underlying33 rfl (by kernel_rfl)) rfl ?_
          have hbs := below_set4 (g := w.heap.size + 1 + 1 + 1) HX2.out.bel (by omega) (.int .i64 0) (.int .i64 0) (.int .i64 0) (.int .i64 0)
          exact ⟨by rw [HC.out]; rfl, hbs.alloc hbs.size _⟩
      · have HC := Lib.hid (change_yes hok hra hF hO)
        have hp : a.per = f.per := Classical.byContradiction fun h => hO (.inl h)
        have hfl : ¬ f.filed < a.filed := fun h => hO (.inr h)
        have hpp : (a.per != f.per) = false := by simpa using hp
        have hm := retB_moved hra hF
        have HBD := Lib.hid (bill_bd HOK.out hra); have HBDM := Lib.hid (bill_bd (r := a.moved f) HOK.out hm)
        have hbm := HBM
        have em : billS s (a.moved f) = (billV s (a.moved f), 0) := billS_yes HOK.out hm
        rw [em] at HBM
        obtain ⟨bm, hbm2⟩ : ∃ b, billV s (a.moved f) = b := ⟨_, rfl⟩
        rw [hbm2] at HBM HC HBDM
        rw [HVA.out] at HC HBD
        obtain ⟨b0, b1, b2, b3⟩ := bm
        have HF1 : Hid (∀ v, (v : Int) = v) := fun _ => rfl
        clear hO hp em hbm hbm2 hm
        have hm2 := HX2.out.move
        have hb3 := hm2.up (below_new _ (blO f0 f1 f2 f3))
        have hga3 := blk_alloc (blk_far (p := ⟨w.heap.size + 1 + 1, 2, none⟩) (blk_far (p := ⟨w.heap.size + 1 + 1, 1, none⟩) HGA2.out (by show ga ≠ w.heap.size + 1 + 1; omega) (.int .i64 a.due)) (by show ga ≠ w.heap.size + 1 + 1; omega) (.int .i64 a.filed)) (blO f0 f1 f2 f3)
        have hr3 := (HR0.out.below hb3.bel).wider hb3.bel.size
        have hfr := fun k => blk_free HX2.out.b2 k
        clear hm2 o0 o1 o2 o3 o4
        go_upto_region 9 with fail
        generalize ((w2.setCell ⟨w.heap.size + 1 + 1, 1, none⟩ (.int .i64 a.due)).setCell ⟨w.heap.size + 1 + 1, 2, none⟩ (.int .i64 a.filed)).alloc (blO f0 f1 f2 f3) = W3 at *
        have HB3 := Lib.hid hb3; have HGA3 := Lib.hid hga3; have HR3 := Lib.hid hr3
        obtain ⟨t0, t1, t2, t3, t4, t5⟩ := cells6 hb3.b0
        obtain ⟨r0, r1, r2, r3, r4⟩ := cells5B (g := w.heap.size + 1 + 1) hb3.b2
        clear hb3 hga3 hr3 hfr s0 s1 s2 s3 s4 s5 q0 q1 q2 q3 q4 p0 p1 p2 p3 p4 hz2 hz20 hz21 hz22 hz23
        go_wp2_with fail
        refine (HBM.out W3 HR3.out).mono ?_; rintro e w4 ⟨rfl, hw4⟩
        have HB4 := Lib.hid (HB3.out.up hw4)
        have hga4 := blk_below HGA3.out hw4 (blk_lt HGA3.out)
        obtain ⟨u0, u1, u2, u3, -⟩ := cells4B hga4
        obtain ⟨o0, o1, o2, o3, o4⟩ := cells4B (g := w.heap.size + 1 + 1 + 1) HB4.out.b3
        have hzz := blk_lt hga4
        have hz4 : w.heap.size + 1 + 1 + 1 < w4.heap.size := blk_lt HB4.out.b3
        obtain ⟨⟨y1, y2⟩, ⟨y3, y4⟩, ⟨y5, y6⟩, ⟨y7, y8⟩, -, -⟩ : (0 ≤ a0 ∧ a0 ≤ 1125899906842624) ∧ (0 ≤ a1 ∧ a1 ≤ 1125899906842624) ∧ (0 ≤ a2 ∧ a2 ≤ a1) ∧ (0 ≤ a3 ∧ a3 ≤ 1125899906842624) ∧ (a1 = 0 ∨ a3 = 0) ∧ a0 = a1 + a.wh - a3 := HBD.out
        obtain ⟨⟨m1, m2⟩, ⟨m3, m4⟩, ⟨m5, m6⟩, ⟨m7, m8⟩, -, -⟩ : (0 ≤ b0 ∧ b0 ≤ 1125899906842624) ∧ (0 ≤ b1 ∧ b1 ≤ 1125899906842624) ∧ (0 ≤ b2 ∧ b2 ≤ b1) ∧ (0 ≤ b3 ∧ b3 ≤ 1125899906842624) ∧ (b1 = 0 ∨ b3 = 0) ∧ b0 = b1 + (a.moved f).wh - b3 := HBDM.out
        have w0 : IntKind.i64.wrap (b0 - a0) = b0 - a0 := IntWalk.i64_in _ (by omega)
        have w1' : IntKind.i64.wrap (b1 - a1) = b1 - a1 := IntWalk.i64_in _ (by omega)
        have w2' : IntKind.i64.wrap (b2 - a2) = b2 - a2 := IntWalk.i64_in _ (by omega)
        have w3' : IntKind.i64.wrap (b3 - a3) = b3 - a3 := IntWalk.i64_in _ (by omega)
        clear hw4 hga4 t0 t1 t2 t3 t4 t5 r0 r1 r2 r3 r4
        go_wp2_with fail
        refine bodyPost_ret (results_row_tmpB rfl _ _ (w.heap.size + 1 + 1 + 1) 33 #[.int .i64 (b0 - a0), .int .i64 (b1 - a1), .int .i64 (b2 - a2), .int .i64 (b3 - a3)] (0, 0) _ (by rfl) (blk_alloc (set4_blkB (g := w.heap.size + 1 + 1 + 1) HB4.out.b3 _ _ _ _) _) Try.underlying33 rfl (by kernel_rfl)) rfl ?_
        have hbs := below_set4 (g := w.heap.size + 1 + 1 + 1) HB4.out.bel (by omega) (.int .i64 (b0 - a0)) (.int .i64 (b1 - a1)) (.int .i64 (b2 - a2)) (.int .i64 (b3 - a3))
        exact ⟨by rw [HC.out]; rfl, hbs.alloc hbs.size _⟩
    · have hef := HEF.out
      rw [billS_no2 hF] at hef
      obtain ⟨_, rfl⟩ := Prod.mk.inj hef
      have HC := Lib.hid (change_no2 (s := s) (a := a) hF)
      have hea := HEA.out
      rw [billS_yes (okS_yes hA.1) hA.2] at hea
      obtain ⟨_, rfl⟩ := Prod.mk.inj hea
      clear hef hea
      go_wp2_with fail
      refine bodyPost_ret (results_row_tmpB rfl _ _ (w.heap.size + 1 + 1 + 1) 33 #[.int .i64 0, .int .i64 0, .int .i64 0, .int .i64 0] (0, 0) _ (by rfl) (blk_alloc (set4_blkB (g := w.heap.size + 1 + 1 + 1) HX2.out.b3 _ _ _ _) _) Try.underlying33 rfl (by kernel_rfl)) rfl ?_
      have hbs := below_set4 (g := w.heap.size + 1 + 1 + 1) HX2.out.bel (by omega) (.int .i64 0) (.int .i64 0) (.int .i64 0) (.int .i64 0)
      exact ⟨by rw [HC.out]; rfl, hbs.alloc hbs.size _⟩
  · have hea := HEA.out
    rw [billS_err hA] at hea
    obtain ⟨_, rfl⟩ := Prod.mk.inj hea
    have HC := Lib.hid (change_no1 (s := s) (a := a) (b := f) hA)
    clear hea
    go_wp2_with fail
    refine bodyPost_ret (results_row_tmpB rfl _ _ (w.heap.size + 1 + 1 + 1) 33 #[.int .i64 0, .int .i64 0, .int .i64 0, .int .i64 0] (0, 0) _ (by rfl) (blk_alloc (set4_blkB (g := w.heap.size + 1 + 1 + 1) HX2.out.b3 _ _ _ _) _) Try.underlying33 rfl (by kernel_rfl)) rfl ?_
    have hbs := below_set4 (g := w.heap.size + 1 + 1 + 1) HX2.out.bel (by omega) (.int .i64 0) (.int .i64 0) (.int .i64 0) (.int .i64 0)
    exact ⟨by rw [HC.out]; rfl, hbs.alloc hbs.size _⟩
end Go.Proofs.Ytilcgpaefkapaaa
