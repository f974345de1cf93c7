/- The walk of AssessLater. -/
import Derived.Test.YtilcgpaefkapaaaAS
namespace Go.Proofs.Ytilcgpaefkapaaa
open Go.RowKit Go
set_option linter.unusedVariables false
set_option linter.unusedSimpArgs false

theorem okS_cases (s : Sch) : (okS s = true ∧ OkS s) ∨ (okS s = false) := by
  by_cases h : okS s = true
  · exact .inl ⟨h, okS_yes h⟩
  · exact .inr (Bool.eq_false_iff.2 h)
set_option maxHeartbeats 3200000 in
set_option maxRecDepth 100000 in
theorem assessLater_walk (A : Option Addr) (n c : Nat) (s : Sch) (r : Ret) (days : Int) (hwf : -9223372036854775808 ≤ days ∧ days ≤ 9223372036854775807) (w : World) (hn : s.bs.length = n) (hr : Rd w w.heap.size 2 A n (brCs s.bs)) :
    Calls Try.prog 6 #[schV A n c s, retV r, .int .i64 days] w fun e w' => e = .returned (.bool true) ∧ Below w.heap.size w w' := by
  have hbx := Box2.start w A n c s r
  have HRD := Lib.hid ((hr.below hbx.bel).wider hbx.bel.size)
  have HBX := Lib.hid hbx
  have HRT := Lib.hid (fun wx h => rright_any A n c s wx hn h)
  have HBL := Lib.hid (fun (r : Ret) wx h => bill_any A n c s r wx hn h)
  have HN := Lib.hid hn
  clear hr hbx hn
  go_enter Try.func6, Try.ntmps6
  go_wp2_with fail
  generalize (w.alloc (schO A n c s)).alloc (retO r 31) = W at *
  refine (awake_any W).mono ?_; rintro e w1 ⟨rfl, hw1⟩
  have HB1 := Lib.hid (HBX.out.up hw1)
  have HR1 := Lib.hid ((HRD.out.below hw1).wider hw1.size)
  obtain ⟨s0, s1, s2, s3, s4, s5⟩ := cells6 HB1.out.b0
  clear hw1
  go_wp2_with fail
  refine (HRT.out w1 HR1.out).mono ?_; rintro e w2 ⟨rfl, hw2⟩
  have HB2 := Lib.hid (HB1.out.up hw2)
  have HR2 := Lib.hid ((HR1.out.below hw2).wider hw2.size)
  clear hw2 s0 s1 s2 s3 s4 s5
  obtain ⟨q0, q1, q2, q3, q4⟩ := cells5B HB2.out.b1
  go_wp2_with fail
  refine (rretright_any r w2).mono ?_; rintro e w3 ⟨rfl, hw3⟩
  have HB3 := Lib.hid (HB2.out.up hw3)
  have HR3 := Lib.hid ((HR2.out.below hw3).wider hw3.size)
  clear hw3 q0 q1 q2 q3 q4
  obtain ⟨s0, s1, s2, s3, s4, s5⟩ := cells6 HB3.out.b0
  obtain ⟨q0, q1, q2, q3, q4⟩ := cells5B HB3.out.b1
  have hz3 : w.heap.size + 1 < w3.heap.size := blk_lt HB3.out.b1
  have hz30 : w.heap.size < w3.heap.size := by omega
  rcases okS_cases s with ⟨hok, hos⟩ | hok
  · by_cases hrt : retB r = true
    · rw [hok, hrt]
      have hfd := dayB_yes (retB_yes hrt).2.2.1
      have hdd := dayB_yes (retB_yes hrt).2.1
      have hsub : IntKind.i64.wrap (3652058 - r.filed) = 3652058 - r.filed := IntWalk.i64_in _ (by omega)
      by_cases hda : 0 ≤ days ∧ days ≤ 3652058 - r.filed
      · have ha := billS_yes hos hrt
        obtain ⟨r1, hr1⟩ : ∃ r1 : Ret, r1 = { r with filed := r.filed + days } := ⟨_, rfl⟩
        obtain ⟨r2, hr2⟩ : ∃ r2 : Ret, r2 = { r with filed := r.due } := ⟨_, rfl⟩
        have hb1 : retB r1 = true := by
          obtain ⟨p1, d1, f1, i1, w1⟩ := retB_yes hrt
          have : dayB (r.filed + days) = true := by simp [dayB]; omega
          rw [hr1]; simp only [retB, d1, this, i1, w1, Bool.and_true, decide_eq_true_eq]; exact p1
        have hb2 : retB r2 = true := by
          obtain ⟨p1, d1, f1, i1, w1⟩ := retB_yes hrt
          rw [hr2]; simp only [retB, d1, i1, w1, Bool.and_true, decide_eq_true_eq]; exact p1
        have hp := prin_bd hos hrt
        have e1 : prinV s r1 = prinV s r := by rw [hr1]; rfl
        have e2 : prinV s r2 = prinV s r := by rw [hr2]; rfl
        have t1 : taxV s r1.inc = taxV s r.inc := by rw [hr1]
        have t2 : taxV s r2.inc = taxV s r.inc := by rw [hr2]
        have x1 : r1.wh = r.wh := by rw [hr1]
        have x2 : r2.wh = r.wh := by rw [hr2]
        have hm : penV s (prinV s r) (lateI r) ≤ penV s (prinV s r) (lateI r1) := pen_mono hos hp (lateI_nn r) (late_mono (by rw [hr1]) hrt hb1 (by rw [hr1]; show r.filed ≤ r.filed + days; omega))
        have hz : penV s (prinV s r) (lateI r2) = 0 := by
          have : lateI r2 = 0 := late_none (by rw [hr2]; exact Int.le_refl _)
          rw [this]; exact if_neg (by omega)
        have ba : billS s r = (⟨taxV s r.inc, prinV s r, penV s (prinV s r) (lateI r), max (r.wh - taxV s r.inc) 0⟩, 0) := ha
        have bb : billS s r1 = (⟨taxV s r.inc, prinV s r, penV s (prinV s r) (lateI r1), max (r.wh - taxV s r.inc) 0⟩, 0) := by rw [billS_yes hos hb1, billV, e1, t1, x1]
        have bc : billS s r2 = (⟨taxV s r.inc, prinV s r, 0, max (r.wh - taxV s r.inc) 0⟩, 0) := by rw [billS_yes hos hb2, billV, e2, t2, x2, hz]
        generalize taxV s r.inc = t at *
        generalize prinV s r = p at *
        generalize penV s p (lateI r) = pa at *
        generalize penV s p (lateI r1) = pb at *
        generalize max (r.wh - t) 0 = x at *
        have BA := HBL.out r; have BB := HBL.out r1; have BC := HBL.out r2
        rw [ba] at BA; rw [bb] at BB; rw [bc] at BC
        have hr1v : retV r1 = .agg #[.int .i64 r.per, .int .i64 r.due, .int .i64 (r.filed + days), .int .i64 r.inc, .int .i64 r.wh] := by rw [hr1]
        have hr2v : retV r2 = .agg #[.int .i64 r.per, .int .i64 r.due, .int .i64 r.due, .int .i64 r.inc, .int .i64 r.wh] := by rw [hr2]
        rw [hr1v] at BB; rw [hr2v] at BC
        have HBA := Lib.hid BA; have HBB := Lib.hid BB; have HBC := Lib.hid BC
        have hadd : IntKind.i64.wrap (r.filed + days) = r.filed + days := IntWalk.i64_in _ (by omega)
        obtain ⟨hda1, hda2⟩ := hda
        clear ha hr1 hr2 hb1 hb2 hp e1 e2 t1 t2 x1 x2 hz ba bb bc BA BB BC hr1v hr2v hok hrt
        go_wp2_with fail
        have hb4 := HB3.out.up (((Below.refl _ _).alloc (Nat.le_refl _) (.cells #[.int .i64 r.per, .int .i64 r.due, .int .i64 (r.filed + days), .int .i64 r.inc, .int .i64 r.wh] 31)).alloc (by simp) (.cells #[.int .i64 r.per, .int .i64 r.due, .int .i64 r.due, .int .i64 r.inc, .int .i64 r.wh] 31))
        have hL4 := blk_alloc (blk_new w3 (.cells #[.int .i64 r.per, .int .i64 r.due, .int .i64 (r.filed + days), .int .i64 r.inc, .int .i64 r.wh] 31) rfl) (.cells #[.int .i64 r.per, .int .i64 r.due, .int .i64 r.due, .int .i64 r.inc, .int .i64 r.wh] 31)
        have hI4 := blk_new (w3.alloc (.cells #[.int .i64 r.per, .int .i64 r.due, .int .i64 (r.filed + days), .int .i64 r.inc, .int .i64 r.wh] 31)) (.cells #[.int .i64 r.per, .int .i64 r.due, .int .i64 r.due, .int .i64 r.inc, .int .i64 r.wh] 31) (g := w3.heap.size + 1) (by simp)
        have hR4 := (HR3.out.below (((Below.refl _ _).alloc (Nat.le_refl _) (.cells #[.int .i64 r.per, .int .i64 r.due, .int .i64 (r.filed + days), .int .i64 r.inc, .int .i64 r.wh] 31)).alloc (by simp) (.cells #[.int .i64 r.per, .int .i64 r.due, .int .i64 r.due, .int .i64 r.inc, .int .i64 r.wh] 31))).wider (by simp; omega : w3.heap.size ≤ ((w3.alloc (.cells #[.int .i64 r.per, .int .i64 r.due, .int .i64 (r.filed + days), .int .i64 r.inc, .int .i64 r.wh] 31)).alloc (.cells #[.int .i64 r.per, .int .i64 r.due, .int .i64 r.due, .int .i64 r.inc, .int .i64 r.wh] 31)).heap.size)
        generalize (w3.alloc (.cells #[.int .i64 r.per, .int .i64 r.due, .int .i64 (r.filed + days), .int .i64 r.inc, .int .i64 r.wh] 31)).alloc (.cells #[.int .i64 r.per, .int .i64 r.due, .int .i64 r.due, .int .i64 r.inc, .int .i64 r.wh] 31) = W4 at *
        have HB4 := Lib.hid hb4; have HL4 := Lib.hid hL4; have HI4 := Lib.hid hI4; have HR4 := Lib.hid hR4
        clear hb4 hL4 hI4 hR4 s0 s1 s2 s3 s4 s5 q0 q1 q2 q3 q4 hsub hadd hda1 hda2 hz3 hz30
        refine (HBA.out W4 HR4.out).mono ?_; rintro e w5 ⟨rfl, hw5⟩
        have hb5 := HB4.out.up hw5
        have hL5 := blk_below HL4.out hw5 (blk_lt HL4.out)
        have hI5 := blk_below HI4.out hw5 (blk_lt HI4.out)
        have hr5 := (HR4.out.below hw5).wider hw5.size
        obtain ⟨s0, s1, s2, s3, s4, s5⟩ := cells6 hb5.b0
        obtain ⟨q0, q1, q2, q3, q4⟩ := cells5B hL5
        have hz51 := blk_lt hL5; have hz50 := blk_lt hb5.b0
        have HB5 := Lib.hid (hb5.up (below_new w5 (blO t p pa x)))
        have HI5 := Lib.hid (blk_alloc hI5 (blO t p pa x))
        have HR5 := Lib.hid ((hr5.below (below_new w5 (blO t p pa x))).wider (below_new w5 (blO t p pa x)).size)
        have hga := heap_alloc_new w5 (blO t p pa x)
        clear hw5 hb5 hL5 hI5 hr5
        go_wp2_with fail
        obtain ⟨ga, hgae⟩ : ∃ ga, ga = w5.heap.size := ⟨_, rfl⟩
        rw [← hgae] at hga ⊢
        generalize w5.alloc (blO t p pa x) = W5 at *
        have HGA := Lib.hid hga
        clear hga hgae hz51 hz50 s0 s1 s2 s3 s4 s5 q0 q1 q2 q3 q4
        refine (HBB.out W5 HR5.out).mono ?_; rintro e w6 ⟨rfl, hw6⟩
        have hb6 := HB5.out.up hw6
        have hI6 := blk_below HI5.out hw6 (blk_lt HI5.out)
        have hga6 := blk_below HGA.out hw6 (blk_lt HGA.out)
        have hr6 := (HR5.out.below hw6).wider hw6.size
        obtain ⟨s0, s1, s2, s3, s4, s5⟩ := cells6 hb6.b0
        obtain ⟨q0, q1, q2, q3, q4⟩ := cells5B hI6
        have hz61 := blk_lt hI6; have hz60 := blk_lt hb6.b0
        have HB6 := Lib.hid (hb6.up (below_new w6 (blO t p pb x)))
        have HGA6 := Lib.hid (blk_alloc hga6 (blO t p pb x))
        have HR6 := Lib.hid ((hr6.below (below_new w6 (blO t p pb x))).wider (below_new w6 (blO t p pb x)).size)
        have hgb := heap_alloc_new w6 (blO t p pb x)
        clear hw6 hb6 hI6 hr6 hga6
        go_wp2_with fail
        obtain ⟨gb, hgbe⟩ : ∃ gb, gb = w6.heap.size := ⟨_, rfl⟩
        rw [← hgbe] at hgb ⊢
        generalize w6.alloc (blO t p pb x) = W6 at *
        have HGB := Lib.hid hgb
        clear hgb hgbe hz61 hz60 s0 s1 s2 s3 s4 s5 q0 q1 q2 q3 q4
        refine (HBC.out W6 HR6.out).mono ?_; rintro e w7 ⟨rfl, hw7⟩
        have hb7 := HB6.out.up hw7
        have hga7 := blk_below HGA6.out hw7 (blk_lt HGA6.out)
        have hgb7 := blk_below HGB.out hw7 (blk_lt HGB.out)
        obtain ⟨q0, q1, q2, q3, q4⟩ := cells4B hga7
        obtain ⟨v0, v1, v2, v3, v4⟩ := cells4B hgb7
        have hz70 := blk_lt hga7; have hz71 := blk_lt hgb7
        have HB7 := Lib.hid hb7.bel
        have t1 : (p == p) = true := by simp
        have t2 : (t == t) = true := by simp
        have t3 : (x == x) = true := by simp
        clear hw7 hb7 hga7 hgb7
        go_wp2_with fail
        go_ret
        exact ⟨ret_bool (by simp), HB7.out.alloc HB7.out.size _⟩
      · have hbad : days < 0 ∨ 3652058 - r.filed < days := by omega
        clear hda hok hrt
        rcases hbad with h | h
        all_goals
          go_wp2_with fail
          all_goals go_ret
          all_goals exact ⟨rfl, HB3.out.bel⟩
    · rw [hok, Bool.eq_false_iff.2 hrt]
      clear hok hrt
      go_wp2_with fail
      go_ret
      exact ⟨rfl, HB3.out.bel⟩
  · rw [hok]
    clear hok
    go_wp2_with fail
    go_ret
    exact ⟨rfl, HB3.out.bel⟩
end Go.Proofs.Ytilcgpaefkapaaa
