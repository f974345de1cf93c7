/- Laws. -/
import Derived.Test.YtbjjgnaojoaoiaaGreatProg
import Derived.Test.YtbjjgnaojoaoiaaGreatZZ0
import Derived.Deep.LoopGhost
import Derived.Deep.CutBlock
namespace Go.Proofs.YtbjjgnaojoaoiaaGreat
open Go.RowKit Go
set_option linter.unusedVariables false
set_option linter.unusedSimpArgs false
set_option maxHeartbeats 3400000
set_option maxRecDepth 100000
theorem leap_b {y : Nat} {b : Bool} (h : b = true ↔ (y % 4 = 0 ∧ (y % 100 ≠ 0 ∨ y % 400 = 0))) : b = leapY y := by
 rw [Bool.eq_iff_iff, h, leapY_iff]
theorem long_any (y : Nat) (w : World) (hy : y ≤ 40000) : Calls Tryz.prog 207 #[.int .i64 y] w fun e w' => e = .returned (.bool (leapY y)) ∧ w = w' := by
 go_enter Tryz.func207, Tryz.ntmps207
 go_wp2
 all_goals go_ret
 all_goals exact ⟨ret_bool (leap_b (by simp; try omega)), rfl⟩
theorem rlong_any (y : Nat) (w : World) (hy : y ≤ 40000) : Calls Tryz.prog 210 #[.int .i64 y] w fun e w' => e = .returned (.bool (leapY y)) ∧ w = w' := by
 go_enter Tryz.func210, Tryz.ntmps210
 go_wp2
 all_goals go_ret
 all_goals exact ⟨ret_bool (leap_b (by simp; try omega)), rfl⟩
theorem year_any (y : Nat) (w : World) (hy : y ≤ 40000) : Calls Tryz.prog 209 #[.int .i64 y] w fun e w' => e = .returned (.int .i64 (yl y : Nat)) ∧ w = w' := by
 by_cases h : leapY y = true
 · have H : Hid (yl y = 366) := by show _ = _; unfold yl; rw [if_pos h]
   go_enter Tryz.func209, Tryz.ntmps209
   go_wp2_with fail
   refine (rlong_any y _ hy).mono ?_; rintro e w' ⟨rfl, rfl⟩
   rw [h]; clear h
   go_wp2_with fail
   go_ret
   exact ⟨by rw [H.out]; rfl, rfl⟩
 · have H : Hid (yl y = 365) := by show _ = _; unfold yl; rw [if_neg h]
   go_enter Tryz.func209, Tryz.ntmps209
   go_wp2_with fail
   refine (rlong_any y _ hy).mono ?_; rintro e w' ⟨rfl, rfl⟩
   rw [Bool.eq_false_iff.2 h]; clear h
   go_wp2_with fail
   go_ret
   exact ⟨by rw [H.out]; rfl, rfl⟩
def lastS (y m : Nat) : Int × Int := if y ≤ 9999 then (((ml y m : Nat) : Int), 0) else (0, 1)
theorem tab_any (y m : Nat) (hm : 1 ≤ m ∧ m ≤ 12) (h2 : m ≠ 2) (w : World) : (Instr.index 233 (.agg #[.int .i64 31, .int .i64 28, .int .i64 31, .int .i64 30, .int .i64 31, .int .i64 30, .int .i64 31, .int .i64 31, .int .i64 30, .int .i64 31, .int .i64 30, .int .i64 31]) (.int .i64 ((m : Int) - 1))).run Tryz.prog w = .ok (.int .i64 (ml y m : Nat)) w := by
 have h : m = 1 ∨ m = 3 ∨ m = 4 ∨ m = 5 ∨ m = 6 ∨ m = 7 ∨ m = 8 ∨ m = 9 ∨ m = 10 ∨ m = 11 ∨ m = 12 := by omega
 have t1 : ∀ w, (Instr.index 233 (.agg #[.int .i64 31, .int .i64 28, .int .i64 31, .int .i64 30, .int .i64 31, .int .i64 30, .int .i64 31, .int .i64 31, .int .i64 30, .int .i64 31, .int .i64 30, .int .i64 31]) (.int .i64 0)).run Tryz.prog w = .ok (.int .i64 31) w := fun _ => by kernel_rfl
 have t3 : ∀ w, (Instr.index 233 (.agg #[.int .i64 31, .int .i64 28, .int .i64 31, .int .i64 30, .int .i64 31, .int .i64 30, .int .i64 31, .int .i64 31, .int .i64 30, .int .i64 31, .int .i64 30, .int .i64 31]) (.int .i64 2)).run Tryz.prog w = .ok (.int .i64 31) w := fun _ => by kernel_rfl
 have t4 : ∀ w, (Instr.index 233 (.agg #[.int .i64 31, .int .i64 28, .int .i64 31, .int .i64 30, .int .i64 31, .int .i64 30, .int .i64 31, .int .i64 31, .int .i64 30, .int .i64 31, .int .i64 30, .int .i64 31]) (.int .i64 3)).run Tryz.prog w = .ok (.int .i64 30) w := fun _ => by kernel_rfl
 have t5 : ∀ w, (Instr.index 233 (.agg #[.int .i64 31, .int .i64 28, .int .i64 31, .int .i64 30, .int .i64 31, .int .i64 30, .int .i64 31, .int .i64 31, .int .i64 30, .int .i64 31, .int .i64 30, .int .i64 31]) (.int .i64 4)).run Tryz.prog w = .ok (.int .i64 31) w := fun _ => by kernel_rfl
 have t6 : ∀ w, (Instr.index 233 (.agg #[.int .i64 31, .int .i64 28, .int .i64 31, .int .i64 30, .int .i64 31, .int .i64 30, .int .i64 31, .int .i64 31, .int .i64 30, .int .i64 31, .int .i64 30, .int .i64 31]) (.int .i64 5)).run Tryz.prog w = .ok (.int .i64 30) w := fun _ => by kernel_rfl
 have t7 : ∀ w, (Instr.index 233 (.agg #[.int .i64 31, .int .i64 28, .int .i64 31, .int .i64 30, .int .i64 31, .int .i64 30, .int .i64 31, .int .i64 31, .int .i64 30, .int .i64 31, .int .i64 30, .int .i64 31]) (.int .i64 6)).run Tryz.prog w = .ok (.int .i64 31) w := fun _ => by kernel_rfl
 have t8 : ∀ w, (Instr.index 233 (.agg #[.int .i64 31, .int .i64 28, .int .i64 31, .int .i64 30, .int .i64 31, .int .i64 30, .int .i64 31, .int .i64 31, .int .i64 30, .int .i64 31, .int .i64 30, .int .i64 31]) (.int .i64 7)).run Tryz.prog w = .ok (.int .i64 31) w := fun _ => by kernel_rfl
 have t9 : ∀ w, (Instr.index 233 (.agg #[.int .i64 31, .int .i64 28, .int .i64 31, .int .i64 30, .int .i64 31, .int .i64 30, .int .i64 31, .int .i64 31, .int .i64 30, .int .i64 31, .int .i64 30, .int .i64 31]) (.int .i64 8)).run Tryz.prog w = .ok (.int .i64 30) w := fun _ => by kernel_rfl
 have t10 : ∀ w, (Instr.index 233 (.agg #[.int .i64 31, .int .i64 28, .int .i64 31, .int .i64 30, .int .i64 31, .int .i64 30, .int .i64 31, .int .i64 31, .int .i64 30, .int .i64 31, .int .i64 30, .int .i64 31]) (.int .i64 9)).run Tryz.prog w = .ok (.int .i64 31) w := fun _ => by kernel_rfl
 have t11 : ∀ w, (Instr.index 233 (.agg #[.int .i64 31, .int .i64 28, .int .i64 31, .int .i64 30, .int .i64 31, .int .i64 30, .int .i64 31, .int .i64 31, .int .i64 30, .int .i64 31, .int .i64 30, .int .i64 31]) (.int .i64 10)).run Tryz.prog w = .ok (.int .i64 30) w := fun _ => by kernel_rfl
 have t12 : ∀ w, (Instr.index 233 (.agg #[.int .i64 31, .int .i64 28, .int .i64 31, .int .i64 30, .int .i64 31, .int .i64 30, .int .i64 31, .int .i64 31, .int .i64 30, .int .i64 31, .int .i64 30, .int .i64 31]) (.int .i64 11)).run Tryz.prog w = .ok (.int .i64 31) w := fun _ => by kernel_rfl
 rcases h with rfl | rfl | rfl | rfl | rfl | rfl | rfl | rfl | rfl | rfl | rfl
 · have e : ((ml y 1 : Nat) : Int) = 31 := by simp [ml]
   rw [e]; exact t1 w
 · have e : ((ml y 3 : Nat) : Int) = 31 := by simp [ml]
   rw [e]; exact t3 w
 · have e : ((ml y 4 : Nat) : Int) = 30 := by simp [ml]
   rw [e]; exact t4 w
 · have e : ((ml y 5 : Nat) : Int) = 31 := by simp [ml]
   rw [e]; exact t5 w
 · have e : ((ml y 6 : Nat) : Int) = 30 := by simp [ml]
   rw [e]; exact t6 w
 · have e : ((ml y 7 : Nat) : Int) = 31 := by simp [ml]
   rw [e]; exact t7 w
 · have e : ((ml y 8 : Nat) : Int) = 31 := by simp [ml]
   rw [e]; exact t8 w
 · have e : ((ml y 9 : Nat) : Int) = 30 := by simp [ml]
   rw [e]; exact t9 w
 · have e : ((ml y 10 : Nat) : Int) = 31 := by simp [ml]
   rw [e]; exact t10 w
 · have e : ((ml y 11 : Nat) : Int) = 30 := by simp [ml]
   rw [e]; exact t11 w
 · have e : ((ml y 12 : Nat) : Int) = 31 := by simp [ml]
   rw [e]; exact t12 w
theorem last_any (y m : Nat) (w : World) (hy : 1 ≤ y ∧ y ≤ 40000) (hm : 1 ≤ m ∧ m ≤ 12) : Calls Tryz.prog 195 #[.int .i64 y, .int .i64 m] w fun e w' => e = .returned (pr (lastS y m)) ∧ w = w' := by
 by_cases h99 : y ≤ 9999
 · have HL : Hid (lastS y m = (((ml y m : Nat) : Int), 0)) := if_pos h99
   by_cases h2 : m = 2
   · subst h2
     by_cases hl : leapY y = true
     · have H : Hid (ml y 2 = 29) := by show _ = _; simp [ml, hl]
       go_enter Tryz.func195, Tryz.ntmps195
       go_wp2_with fail
       refine (long_any y _ hy.2).mono ?_; rintro e w' ⟨rfl, rfl⟩
       rw [hl]; clear hl
       go_wp2_with fail
       go_ret2
       exact ⟨ret_pr (by rw [HL.out, H.out]; rfl), rfl⟩
     · have H : Hid (ml y 2 = 28) := by show _ = _; simp [ml, hl]
       have i0 : ∀ w, (Instr.index 233 (.agg #[.int .i64 31, .int .i64 28, .int .i64 31, .int .i64 30, .int .i64 31, .int .i64 30, .int .i64 31, .int .i64 31, .int .i64 30, .int .i64 31, .int .i64 30, .int .i64 31]) (.int .i64 1)).run Tryz.prog w = .ok (.int .i64 28) w := fun _ => by kernel_rfl
       go_enter Tryz.func195, Tryz.ntmps195
       go_wp2_with fail
       refine (long_any y _ hy.2).mono ?_; rintro e w' ⟨rfl, rfl⟩
       rw [Bool.eq_false_iff.2 hl]; clear hl
       go_wp2_with fail
       go_ret2
       exact ⟨ret_pr (by rw [HL.out, H.out]; rfl), rfl⟩
   · have i0 := tab_any y m hm h2
     have hsub : IntKind.i64.wrap ((m : Int) - 1) = (m : Int) - 1 := IntWalk.i64_in _ (by omega)
     have hne : ((m : Int) == 2) = false := by simp; omega
     have hne' : ¬ (m : Int) = 2 := by omega
     go_enter Tryz.func195, Tryz.ntmps195
     go_wp2_with fail
     go_ret2
     exact ⟨ret_pr (by rw [HL.out]), rfl⟩
 · have HL : Hid (lastS y m = (0, 1)) := if_neg h99
   go_enter Tryz.func195, Tryz.ntmps195
   go_wp2_with fail
   go_ret2
   exact ⟨ret_pr HL.out, rfl⟩
theorem dby_up (y : Nat) (h : y ≤ 9999) (h1 : 1 ≤ y) : dby y ≤ 3651694 := by unfold dby; omega
theorem cumM_up (y : Nat) : ∀ m, cumM y m ≤ 31 * m
 | 0 => by simp [cumM]
 | m + 1 => by
   have := cumM_up y m; have := ml_bd y m
   simp only [cumM]; split <;> omega
theorem last_ok {y m : Nat} (h : y ≤ 9999) : lastS y m = (((ml y m : Nat) : Int), 0) := if_pos h
theorem days_any (y m d : Nat) (w : World) (hy : 1 ≤ y ∧ y ≤ 9999) (hm : 1 ≤ m ∧ m ≤ 12) (hd : 1 ≤ d ∧ d ≤ ml y m) :
  Calls Tryz.prog 196 #[.int .i64 y, .int .i64 m, .int .i64 d] w fun e w' => e = .returned (pr (((dby y + cumM y m + (d - 1) : Nat) : Int), 0)) ∧ w = w' := by
 obtain ⟨Y, hY⟩ : ∃ Y, Y = y - 1 := ⟨_, rfl⟩
 obtain ⟨N, hN⟩ : ∃ N, N = m - 1 := ⟨_, rfl⟩
 have hmb := ml_bd y m
 have hsub : IntKind.i64.wrap ((y : Int) - 1) = (Y : Int) := by rw [IntWalk.i64_in _ (by omega)]; omega
 have hsub2 : IntKind.i64.wrap ((m : Int) - 1) = (N : Int) := by rw [IntWalk.i64_in _ (by omega)]; omega
 have HD : Hid ((Y : Int) * 365 + (Y : Int) / 4 - (Y : Int) / 100 + (Y : Int) / 400 + d - 1 = ((dby y + (d - 1) : Nat) : Int)) := by show _ = _; unfold dby; omega
 have hup := dby_up y hy.2 hy.1
 have HN := hyd hN; have HY := hyd hY
 have hYb : Y ≤ 9998 := by omega
 have hNb : N ≤ 11 := by omega
 obtain ⟨L, hL⟩ : ∃ L, ml y m = L := ⟨_, rfl⟩
 have HL := hyd hL
 rw [hL] at hd hmb
 clear hN hY hL
 have g1 : decide ((d : Int) < 1) = false := decide_eq_false (by omega)
 have g2 : decide (L < d) = false := decide_eq_false (by omega)
 go_enter Tryz.func196, Tryz.ntmps196
 go_wp2_with fail
 refine (last_any y m _ ⟨hy.1, by omega⟩ hm).mono ?_; rintro e w' ⟨rfl, rfl⟩
 rw [last_ok hy.2, HL.out]
 go_wp2_with fail
 go_loopg [11, 50] N (fun g v11 v50 wr => ∃ k : Nat, g = N - k ∧ k ≤ N ∧ v50 = .int .i64 k ∧ v11 = .int .i64 ((dby y + cumM y (k + 1) + (d - 1) : Nat) : Int) ∧ wr = w)
 case atStart => exact ⟨0, rfl, by omega, rfl, by rw [HD.out, Nat.zero_add, cumM_one]; rfl, rfl⟩
 case round =>
  obtain ⟨k, hgk, hk, rfl, rfl, rfl⟩ := hrel
  have HG := hyd hgk; clear hgk hsub hsub2
  by_cases hlt : k < N
  · have hk1 : k + 1 < m := by have := HN.out; omega
    have H1 := hyd (last_any y (k + 1) wr ⟨hy.1, by omega⟩ (by omega))
    have hc := cumM_up y (k + 1); have hb := ml_bd y (k + 1)
    have HC := hyd (cumM_succ y (m := k + 1) (by omega))
    go_wp2_with fail
    refine H1.out.mono ?_; rintro e w' ⟨rfl, rfl⟩
    rw [last_ok hy.2]
    generalize ml y (k + 1) = l at *
    generalize cumM y (k + 1) = c at *
    go_wp2_with fail
    go_roundg (N - (k + 1))
    case measure => have := HG.out; omega
    case rel => exact ⟨k + 1, rfl, by omega, by go_num, by rw [HC.out]; go_num, rfl⟩
  · have hkN : k + 1 = m := by have := HN.out; omega
    rw [hkN]
    go_wp2_with fail
    go_ret2
    exact ⟨rfl, rfl⟩
theorem results_tmp4 {fn : Func} {t u v x : Tmp} (h : fn.results = #[.tmp t, .tmp u, .tmp v, .tmp x]) (tmps : Array Value) (P : Program) (w : World) :
  (results fn tmps).run P w = .ok (.tuple #[tmps.getD t undef, tmps.getD u undef, tmps.getD v undef, tmps.getD x undef]) w := by
 simp [results, h]
@[reducible] def pr4 (y m d e : Int) : Value := .tuple #[.int .i64 y, .int .i64 m, .int .i64 d, .int .i64 e]
def st1 (N : Nat) : Nat × Nat := (N - min (N / 146097) 100 * 146097, 1 + min (N / 146097) 100 * 400)
def st2 (N : Nat) : Nat × Nat := ((st1 N).1 - min ((st1 N).1 / 36524) 3 * 36524, (st1 N).2 + min ((st1 N).1 / 36524) 3 * 100)
def st3 (N : Nat) : Nat × Nat := ((st2 N).1 - min ((st2 N).1 / 1461) 24 * 1461, (st2 N).2 + min ((st2 N).1 / 1461) 24 * 4)
def st4 (N : Nat) : Nat × Nat := ((st3 N).1 - min ((st3 N).1 / 365) 3 * 365, (st3 N).2 + min ((st3 N).1 / 365) 3 * 1)
def stepN (N : Nat) (i : Nat) : Nat × Nat := if i = 0 then (N, 1) else if i = 1 then st1 N else if i = 2 then st2 N else if i = 3 then st3 N else st4 N
theorem stepN_end {N : Nat} (h : N ≤ 3652058) : N = dby (st4 N).2 + (st4 N).1 ∧ (st4 N).1 < yl (st4 N).2 ∧ 1 ≤ (st4 N).2 := by
 have := year_steps (n := N) h (k1 := min (N / 146097) 100) (k2 := min ((st1 N).1 / 36524) 3) (k3 := min ((st2 N).1 / 1461) 24) (k4 := min ((st3 N).1 / 365) 3) (n1 := (st1 N).1) (n2 := (st2 N).1) (n3 := (st3 N).1) (n4 := (st4 N).1) rfl rfl rfl rfl rfl rfl rfl rfl
 have e : (st4 N).2 = 1 + min (N / 146097) 100 * 400 + min ((st1 N).1 / 36524) 3 * 100 + min ((st2 N).1 / 1461) 24 * 4 + min ((st3 N).1 / 365) 3 := by
  simp only [st4, st3, st2, st1, Nat.mul_one]
 rw [e]
 exact ⟨this.1, this.2, by omega⟩
theorem dby_inj {y : Nat} (h : dby y ≤ 3652058) : y ≤ 9999 := by
 rcases Nat.lt_or_ge y 10000 with h1 | h1
 · omega
 · have := dby_big h1; omega
theorem date_any (N : Nat) (w : World) (hN : N ≤ 3652058) :
  Calls Tryz.prog 174 #[.int .i64 N] w fun e w' => (∃ y m d : Nat, IsD N y m d ∧ y ≤ 9999 ∧ e = .returned (pr4 y m d 0)) ∧ Below w.heap.size w w' := by
 have h0 : decide ((N : Int) < 0) = false := decide_eq_false (by omega)
 have h1 : decide (3652058 < (N : Int)) = false := decide_eq_false (by omega)
 have h0' : ¬ (N : Int) < 0 := by omega
 have h1' : ¬ 3652058 < (N : Int) := by omega
 go_enter Tryz.func174, Tryz.ntmps174
 go_wp2_with fail
 go_step3
 go_wp2_with fail
 have hblk := heap_alloc_new w (.cells #[.int .i64 146097, .int .i64 400, .int .i64 100, .int .i64 36524, .int .i64 100, .int .i64 3, .int .i64 1461, .int .i64 4, .int .i64 24, .int .i64 365, .int .i64 1, .int .i64 3] 221)
 have hbel : Below w.heap.size w (w.alloc (.cells #[.int .i64 146097, .int .i64 400, .int .i64 100, .int .i64 36524, .int .i64 100, .int .i64 3, .int .i64 1461, .int .i64 4, .int .i64 24, .int .i64 365, .int .i64 1, .int .i64 3] 221)) := (Below.refl _ _).alloc (Nat.le_refl _) _
 generalize w.alloc (.cells #[.int .i64 146097, .int .i64 400, .int .i64 100, .int .i64 36524, .int .i64 100, .int .i64 3, .int .i64 1461, .int .i64 4, .int .i64 24, .int .i64 365, .int .i64 1, .int .i64 3] 221) = W at *
 obtain ⟨g, hg⟩ : ∃ g, g = w.heap.size := ⟨_, rfl⟩
 rw [← hg] at hblk ⊢
 have HBL := hyd hblk; have HBE := hyd hbel; have HGG := hyd hg; have HNN := hyd hN
 clear hblk hbel hg hN h0 h1 h0' h1'
 go_loopg [0, 6, 25] 4 (fun gh v0 v6 v25 wr => ∃ i : Nat, gh = 4 - i ∧ i ≤ 4 ∧ v25 = .int .i64 i ∧ v0 = .int .i64 (stepN N i).1 ∧ v6 = .int .i64 (stepN N i).2 ∧ Below W.heap.size W wr)
 case atStart => exact ⟨0, rfl, by omega, rfl, rfl, rfl, Below.refl _ _⟩
 case round =>
  obtain ⟨i, hgk, hk, rfl, rfl, rfl, hbr⟩ := hrel
  have HG := hyd hgk; have HB := hyd hbr
  have hbl := blk_below HBL.out hbr (blk_lt HBL.out)
  have hgr := blk_lt hbl
  clear hgk hbr
  have h4 : i = 0 ∨ i = 1 ∨ i = 2 ∨ i = 3 ∨ i = 4 := by omega
  rcases h4 with rfl | rfl | rfl | rfl | rfl
  · obtain ⟨n, hn⟩ : ∃ n, N = n := ⟨_, rfl⟩
    obtain ⟨y, hy⟩ : ∃ y, 1 = y := ⟨_, rfl⟩
    obtain ⟨q, hq⟩ : ∃ q, min (n / 146097) 100 = q := ⟨_, rfl⟩
    have hnb : n ≤ 3652058 := by have := HNN.out; subst hn; try simp only [st1, st2, st3]
                                 omega
    have hyb : y ≤ 100000 := by subst hy; try simp only [st1, st2, st3]
                                omega
    have e0 : (stepN N 0).1 = n := hn
    have e1 : (stepN N 0).2 = y := hy
    have E2 : Hid ((stepN N 1).1 = n - q * 146097) := by show _ = _; subst hq hn; rfl
    have E3 : Hid ((stepN N 1).2 = y + q * 400) := by show _ = _; subst hq hn hy; rfl
    rw [e0, e1]
    have c0 : wr.cell? ⟨g, 0, none⟩ = some (.int .i64 146097) := (blk_cell hbl 0).trans rfl
    have c1 : wr.cell? ⟨g, 1, none⟩ = some (.int .i64 400) := (blk_cell hbl 1).trans rfl
    have c2 : wr.cell? ⟨g, 2, none⟩ = some (.int .i64 100) := (blk_cell hbl 2).trans rfl
    clear e0 e1 hn hy
    by_cases hc : n / 146097 ≤ 100
    · have hmin : (n : Int) / 146097 = (q : Int) := by omega
      have hqb : (q : Int) ≤ 100 := by omega
      have hqn : q * 146097 ≤ n := by omega
      clear hq hc
      go_wp2_with fail
      go_quiet (fail)
      go_wp2_with fail
      go_quiet (fail)
      go_wp2_with fail
      go_roundg (3 - 0)
      case measure => have := HG.out; omega
      case rel => exact ⟨1, rfl, by omega, rfl, by rw [E2.out]; go_num, by rw [E3.out]; go_num, HB.out.trans (Below.mono bly HB.out.size)⟩
    · exact absurd hnb (by omega)
  · obtain ⟨n, hn⟩ : ∃ n, (st1 N).1 = n := ⟨_, rfl⟩
    obtain ⟨y, hy⟩ : ∃ y, (st1 N).2 = y := ⟨_, rfl⟩
    obtain ⟨q, hq⟩ : ∃ q, min (n / 36524) 3 = q := ⟨_, rfl⟩
    have hnb : n ≤ 3652058 := by have := HNN.out; subst hn; try simp only [st1, st2, st3]
                                 omega
    have hyb : y ≤ 100000 := by subst hy; try simp only [st1, st2, st3]
                                omega
    have e0 : (stepN N 1).1 = n := hn
    have e1 : (stepN N 1).2 = y := hy
    have E2 : Hid ((stepN N 2).1 = n - q * 36524) := by show _ = _; subst hq hn; rfl
    have E3 : Hid ((stepN N 2).2 = y + q * 100) := by show _ = _; subst hq hn hy; rfl
    rw [e0, e1]
    have c0 : wr.cell? ⟨g, 3, none⟩ = some (.int .i64 36524) := (blk_cell hbl 3).trans rfl
    have c1 : wr.cell? ⟨g, 4, none⟩ = some (.int .i64 100) := (blk_cell hbl 4).trans rfl
    have c2 : wr.cell? ⟨g, 5, none⟩ = some (.int .i64 3) := (blk_cell hbl 5).trans rfl
    clear e0 e1 hn hy
    by_cases hc : n / 36524 ≤ 3
    · have hmin : (n : Int) / 36524 = (q : Int) := by omega
      have hqb : (q : Int) ≤ 3 := by omega
      have hqn : q * 36524 ≤ n := by omega
      clear hq hc
      go_wp2_with fail
      go_quiet (fail)
      go_wp2_with fail
      go_quiet (fail)
      go_wp2_with fail
      go_roundg (3 - 1)
      case measure => have := HG.out; omega
      case rel => exact ⟨2, rfl, by omega, rfl, by rw [E2.out]; go_num, by rw [E3.out]; go_num, HB.out.trans (Below.mono bly HB.out.size)⟩
    · have hmin : ¬ (n : Int) / 36524 ≤ 3 := by omega
      have hqe : q = 3 := by omega
      have hqn : 3 * 36524 ≤ n := by omega
      subst hqe
      clear hq hc
      go_wp2_with fail
      go_quiet (fail)
      go_wp2_with fail
      go_quiet (fail)
      go_wp2_with fail
      go_roundg (3 - 1)
      case measure => have := HG.out; omega
      case rel => exact ⟨2, rfl, by omega, rfl, by rw [E2.out]; go_num, by rw [E3.out]; go_num, HB.out.trans (Below.mono bly HB.out.size)⟩
  · obtain ⟨n, hn⟩ : ∃ n, (st2 N).1 = n := ⟨_, rfl⟩
    obtain ⟨y, hy⟩ : ∃ y, (st2 N).2 = y := ⟨_, rfl⟩
    obtain ⟨q, hq⟩ : ∃ q, min (n / 1461) 24 = q := ⟨_, rfl⟩
    have hnb : n ≤ 3652058 := by have := HNN.out; subst hn; try simp only [st1, st2, st3]
                                 omega
    have hyb : y ≤ 100000 := by subst hy; try simp only [st1, st2, st3]
                                omega
    have e0 : (stepN N 2).1 = n := hn
    have e1 : (stepN N 2).2 = y := hy
    have E2 : Hid ((stepN N 3).1 = n - q * 1461) := by show _ = _; subst hq hn; rfl
    have E3 : Hid ((stepN N 3).2 = y + q * 4) := by show _ = _; subst hq hn hy; rfl
    rw [e0, e1]
    have c0 : wr.cell? ⟨g, 6, none⟩ = some (.int .i64 1461) := (blk_cell hbl 6).trans rfl
    have c1 : wr.cell? ⟨g, 7, none⟩ = some (.int .i64 4) := (blk_cell hbl 7).trans rfl
    have c2 : wr.cell? ⟨g, 8, none⟩ = some (.int .i64 24) := (blk_cell hbl 8).trans rfl
    clear e0 e1 hn hy
    by_cases hc : n / 1461 ≤ 24
    · have hmin : (n : Int) / 1461 = (q : Int) := by omega
      have hqb : (q : Int) ≤ 24 := by omega
      have hqn : q * 1461 ≤ n := by omega
      clear hq hc
      go_wp2_with fail
      go_quiet (fail)
      go_wp2_with fail
      go_quiet (fail)
      go_wp2_with fail
      go_roundg (3 - 2)
      case measure => have := HG.out; omega
      case rel => exact ⟨3, rfl, by omega, rfl, by rw [E2.out]; go_num, by rw [E3.out]; go_num, HB.out.trans (Below.mono bly HB.out.size)⟩
    · have hmin : ¬ (n : Int) / 1461 ≤ 24 := by omega
      have hqe : q = 24 := by omega
      have hqn : 24 * 1461 ≤ n := by omega
      subst hqe
      clear hq hc
      go_wp2_with fail
      go_quiet (fail)
      go_wp2_with fail
      go_quiet (fail)
      go_wp2_with fail
      go_roundg (3 - 2)
      case measure => have := HG.out; omega
      case rel => exact ⟨3, rfl, by omega, rfl, by rw [E2.out]; go_num, by rw [E3.out]; go_num, HB.out.trans (Below.mono bly HB.out.size)⟩
  · obtain ⟨n, hn⟩ : ∃ n, (st3 N).1 = n := ⟨_, rfl⟩
    obtain ⟨y, hy⟩ : ∃ y, (st3 N).2 = y := ⟨_, rfl⟩
    obtain ⟨q, hq⟩ : ∃ q, min (n / 365) 3 = q := ⟨_, rfl⟩
    have hnb : n ≤ 3652058 := by have := HNN.out; subst hn; try simp only [st1, st2, st3]
                                 omega
    have hyb : y ≤ 100000 := by subst hy; try simp only [st1, st2, st3]
                                omega
    have e0 : (stepN N 3).1 = n := hn
    have e1 : (stepN N 3).2 = y := hy
    have E2 : Hid ((stepN N 4).1 = n - q * 365) := by show _ = _; subst hq hn; rfl
    have E3 : Hid ((stepN N 4).2 = y + q * 1) := by show _ = _; subst hq hn hy; rfl
    rw [e0, e1]
    have c0 : wr.cell? ⟨g, 9, none⟩ = some (.int .i64 365) := (blk_cell hbl 9).trans rfl
    have c1 : wr.cell? ⟨g, 10, none⟩ = some (.int .i64 1) := (blk_cell hbl 10).trans rfl
    have c2 : wr.cell? ⟨g, 11, none⟩ = some (.int .i64 3) := (blk_cell hbl 11).trans rfl
    clear e0 e1 hn hy
    by_cases hc : n / 365 ≤ 3
    · have hmin : (n : Int) / 365 = (q : Int) := by omega
      have hqb : (q : Int) ≤ 3 := by omega
      have hqn : q * 365 ≤ n := by omega
      clear hq hc
      go_wp2_with fail
      go_quiet (fail)
      go_wp2_with fail
      go_quiet (fail)
      go_wp2_with fail
      go_roundg (3 - 3)
      case measure => have := HG.out; omega
      case rel => exact ⟨4, rfl, by omega, rfl, by rw [E2.out]; go_num, by rw [E3.out]; go_num, HB.out.trans (Below.mono bly HB.out.size)⟩
    · have hmin : ¬ (n : Int) / 365 ≤ 3 := by omega
      have hqe : q = 3 := by omega
      have hqn : 3 * 365 ≤ n := by omega
      subst hqe
      clear hq hc
      go_wp2_with fail
      go_quiet (fail)
      go_wp2_with fail
      go_quiet (fail)
      go_wp2_with fail
      go_roundg (3 - 3)
      case measure => have := HG.out; omega
      case rel => exact ⟨4, rfl, by omega, rfl, by rw [E2.out]; go_num, by rw [E3.out]; go_num, HB.out.trans (Below.mono bly HB.out.size)⟩
  · obtain ⟨hN1, hr, hy1⟩ := stepN_end HNN.out
    have e0 : stepN N 4 = st4 N := rfl
    rw [e0]
    obtain ⟨y, hy⟩ : ∃ y, (st4 N).2 = y := ⟨_, rfl⟩
    obtain ⟨r, hrr⟩ : ∃ r, (st4 N).1 = r := ⟨_, rfl⟩
    rw [hy, hrr] at hN1
    rw [hy, hrr] at hr
    rw [hy] at hy1
    rw [hy, hrr]
    have hy2 : y ≤ 9999 := dby_inj (by have := HNN.out; omega)
    have HN1 := hyd hN1; have HR := hyd hr
    have HC := hyd (cumM_year y)
    clear e0 hy hrr hN1 hr HG hk
    go_wp2_with fail
    go_step3
    go_wp2_with fail
    go_loopg [0, 10, 11, 12] 11 (fun gh v0 v10 v11 v12 wx => ∃ m n : Nat, gh = 12 - m ∧ (1 ≤ m ∧ m ≤ 12) ∧ v10 = .int .i64 m ∧ v0 = .int .i64 n ∧ r = cumM y m + n ∧ wx = wr)
    case atStart => exact ⟨1, r, rfl, by omega, rfl, rfl, by rw [cumM_one]; omega, rfl⟩
    case round =>
     obtain ⟨m, n, hgm, hm, rfl, rfl, hrn, rfl⟩ := hrel
     have HGM := hyd hgm; have HRN := hyd hrn
     have hnb : n ≤ 366 := by have := HR.out; unfold yl at this; split at this <;> omega
     clear hgm hrn
     by_cases hlt : m < 12
     · have HL := hyd (last_any y m wr ⟨hy1, by omega⟩ hm)
       go_wp2_with fail
       refine HL.out.mono ?_; rintro e w' ⟨rfl, rfl⟩
       rw [last_ok hy2]
       have hmb := ml_bd y m
       have HCS := hyd (cumM_succ y hm.1)
       obtain ⟨l, hl⟩ : ∃ l, ml y m = l := ⟨_, rfl⟩
       have HML := hyd hl
       rw [hl] at hmb ⊢
       clear hl
       by_cases hln : l ≤ n
       · have hsub : IntKind.i64.wrap ((n : Int) - l) = ((n - l : Nat) : Int) := by rw [IntWalk.i64_in _ (by omega)]; omega
         go_wp2_with fail
         go_roundg (12 - (m + 1))
         case measure => have := HGM.out; omega
         case rel => exact ⟨m + 1, n - l, rfl, by omega, by go_num, rfl, by have := HRN.out; have := HCS.out; have := HML.out; omega, rfl⟩
       · go_wp2_with fail
         rw [Exit.noGoto_ret]
         refine bodyPost_ret (results_tmp4 rfl _ _ _) rfl ?_
         refine ⟨⟨y, m, n + 1, ⟨hy1, hm, ⟨by omega, by have := HML.out; omega⟩, by have := HN1.out; have := HRN.out; omega⟩, hy2, by rfl⟩, ?_⟩
         exact HBE.out.trans (HB.out.mono HBE.out.size)
     · have hm12 : m = 12 := by omega
       subst hm12
       have HCS : Hid (cumM y 13 = cumM y 12 + ml y 12) := cumM_succ y (m := 12) (by omega)
       go_wp2_with fail
       rw [Exit.noGoto_ret]
       refine bodyPost_ret (results_tmp4 rfl _ _ _) rfl ?_
       refine ⟨⟨y, 12, n + 1, ⟨hy1, by omega, ⟨by omega, by have := HRN.out; have := HCS.out; have := HC.out; have := HR.out; omega⟩, by have := HN1.out; have := HRN.out; omega⟩, hy2, by rfl⟩, ?_⟩
       exact HBE.out.trans (HB.out.mono HBE.out.size)
def monthsV (o : Option Nat) : Int × Int := match o with
 | some x => ((x : Int), 0)
 | none => (0, 2)
theorem addM_some {i d n : Nat} (h : (i + n) / 12 ≤ 9999) : addM i d n = some (ms (i + n) + (min d (mlen (i + n)) - 1)) := if_pos h
theorem addM_none {i d n : Nat} (h : ¬ (i + n) / 12 ≤ 9999) : addM i d n = none := if_neg h
theorem months_any (N k : Nat) (w : World) (hN : N ≤ 3652058) (hk : k ≤ 120000) :
  Calls Tryz.prog 175 #[.int .i64 N, .int .i64 k] w fun e w' => e = .returned (pr (monthsV (addD N k))) ∧ Below w.heap.size w w' := by
 go_enter Tryz.func175, Tryz.ntmps175
 go_wp2_with fail
 refine (date_any N w hN).mono ?_; rintro e w1 ⟨⟨y, m, d, hd, hy, rfl⟩, hw1⟩
 have HW1 := hyd hw1; clear hw1
 have hmi := mi_eq hd
 have HA : Hid (addD N k = addM (12 * y + (m - 1)) d k) := by show _ = _; unfold addD; rw [hmi]
 have y1 := hd.1; have hm1 := hd.2.1.1; have hm2 := hd.2.1.2; have hd1 := hd.2.2.1.1; have hd2 := hd.2.2.1.2
 obtain ⟨I, hI⟩ : ∃ I, I = 12 * y + (m - 1) + k := ⟨_, rfl⟩
 have hb := ml_bd y m
 obtain ⟨J, hJ⟩ : ∃ J, J = 12 * y + (m - 1) := ⟨_, rfl⟩
 have hsub : IntKind.i64.wrap ((y : Int) * 12 + m - 1) = (J : Int) := by rw [IntWalk.i64_in _ (by omega)]; omega
 have hadd : (J : Int) + (k : Int) = (I : Int) := by omega
 have hJb : J ≤ 130000 := by omega
 have hIb : I ≤ 300000 := by omega
 have hI12 : 12 ≤ I := by omega
 have k0 : decide ((k : Int) < -120000) = false := decide_eq_false (by omega)
 have k1 : decide (120000 < (k : Int)) = false := decide_eq_false (by omega)
 have HI := hyd hI
 have e1 : ((I / 12 : Nat) : Int) = (I : Int) / 12 := by omega
 have e2 : ((I % 12 + 1 : Nat) : Int) = (I : Int) % 12 + 1 := by omega
 have hl := last_any (I / 12) (I % 12 + 1) w1 (by omega) (by omega)
 rw [e1, e2] at hl
 have HL := hyd hl
 have HE1 := hyd e1; have HE2 := hyd e2
 clear hl e1 e2
 clear hI hmi hd hJ
 go_wp2_with fail
 refine HL.out.mono ?_; rintro e w' ⟨rfl, rfl⟩
 by_cases h99 : I / 12 ≤ 9999
 · rw [last_ok h99]
   have hb2 := ml_bd (I / 12) (I % 12 + 1)
   have HML : Hid (mlen I = ml (I / 12) (I % 12 + 1)) := rfl
   have HMS : Hid (Go.Proofs.YtbjjgnaojoaoiaaGreat.ms I = dby (I / 12) + cumM (I / 12) (I % 12 + 1)) := rfl
   have HAS : Hid (addM (12 * y + (m - 1)) d k = some (Go.Proofs.YtbjjgnaojoaoiaaGreat.ms I + (min d (mlen I) - 1))) := by show _ = _; rw [addM_some (by rw [← HI.out]; exact h99), ← HI.out]
   have hds := days_any (I / 12) (I % 12 + 1) (min d (ml (I / 12) (I % 12 + 1))) w1 (by omega) (by omega) (by omega)
   generalize ml (I / 12) (I % 12 + 1) = L at *
   rw [HE1.out, HE2.out] at hds
   have HR : Hid (monthsV (addD N k) = (((dby (I / 12) + cumM (I / 12) (I % 12 + 1) + (min d L - 1) : Nat) : Int), 0)) := by show _ = _; rw [HA.out, HAS.out, HMS.out, HML.out]; rfl
   by_cases hdl : d ≤ L
   · rw [Nat.min_eq_left hdl] at hds HR
     have HDS := hyd hds; clear hds
     go_wp2_with fail
     refine HDS.out.mono ?_; rintro e w' ⟨rfl, rfl⟩
     go_wp2_with fail
     go_ret2
     exact ⟨ret_pr (by rw [HR.out]; simp), HW1.out⟩
   · rw [Nat.min_eq_right (by omega)] at hds HR
     have HDS := hyd hds; clear hds
     have hdl' : ¬ (d : Int) ≤ (L : Int) := by omega
     go_wp2_with fail
     refine HDS.out.mono ?_; rintro e w' ⟨rfl, rfl⟩
     go_wp2_with fail
     go_ret2
     exact ⟨ret_pr (by rw [HR.out]; simp), HW1.out⟩
 · have e : lastS (I / 12) (I % 12 + 1) = (0, 1) := if_neg h99
   have HAS : Hid (addM (12 * y + (m - 1)) d k = none) := by show _ = _; rw [addM_none (by rw [← HI.out]; exact h99)]
   rw [e]
   go_wp2_with fail
   go_ret2
   exact ⟨by rw [HA.out, HAS.out]; rfl, HW1.out⟩
theorem rlast_any (y m : Nat) (w : World) (hy : 1 ≤ y ∧ y ≤ 40000) (hm : 1 ≤ m ∧ m ≤ 12) : Calls Tryz.prog 204 #[.int .i64 y, .int .i64 m] w fun e w' => e = .returned (pr (lastS y m)) ∧ w = w' := by
 by_cases h99 : y ≤ 9999
 · have HL : Hid (lastS y m = (((ml y m : Nat) : Int), 0)) := if_pos h99
   by_cases h2 : m = 2
   · subst h2
     by_cases hl : leapY y = true
     · have H : Hid (ml y 2 = 29) := by show _ = _; simp [ml, hl]
       go_enter Tryz.func204, Tryz.ntmps204
       go_wp2_with fail
       refine (rlong_any y _ hy.2).mono ?_; rintro e w' ⟨rfl, rfl⟩
       rw [hl]; clear hl
       go_wp2_with fail
       go_ret2
       exact ⟨ret_pr (by rw [HL.out, H.out]; rfl), rfl⟩
     · have H : Hid (ml y 2 = 28) := by show _ = _; simp [ml, hl]
       go_enter Tryz.func204, Tryz.ntmps204
       go_wp2_with fail
       refine (rlong_any y _ hy.2).mono ?_; rintro e w' ⟨rfl, rfl⟩
       rw [Bool.eq_false_iff.2 hl]; clear hl
       go_wp2_with fail
       go_ret2
       exact ⟨ret_pr (by rw [HL.out, H.out]; rfl), rfl⟩
   · have h : m = 1 ∨ m = 3 ∨ m = 4 ∨ m = 5 ∨ m = 6 ∨ m = 7 ∨ m = 8 ∨ m = 9 ∨ m = 10 ∨ m = 11 ∨ m = 12 := by omega
     rcases h with rfl | rfl | rfl | rfl | rfl | rfl | rfl | rfl | rfl | rfl | rfl
     all_goals
      go_enter Tryz.func204, Tryz.ntmps204
      go_wp2_with fail
      go_ret2
      exact ⟨ret_pr (by rw [HL.out]; simp [ml]), rfl⟩
 · have HL : Hid (lastS y m = (0, 1)) := if_neg h99
   go_enter Tryz.func204, Tryz.ntmps204
   go_wp2_with fail
   go_ret2
   exact ⟨ret_pr HL.out, rfl⟩
theorem dby_one : dby 1 = 0 := by decide
theorem yl_bd (y : Nat) : 365 ≤ yl y ∧ yl y ≤ 366 := by unfold yl; split <;> omega
theorem rdays_any (y m d : Nat) (w : World) (hy : 1 ≤ y ∧ y ≤ 9999) (hm : 1 ≤ m ∧ m ≤ 12) (hd : 1 ≤ d ∧ d ≤ ml y m) :
  Calls Tryz.prog 205 #[.int .i64 y, .int .i64 m, .int .i64 d] w fun e w' => e = .returned (pr (((dby y + cumM y m + (d - 1) : Nat) : Int), 0)) ∧ w = w' := by
 have hmb := ml_bd y m
 obtain ⟨D, hD⟩ : ∃ D, D = d - 1 := ⟨_, rfl⟩
 have hsub : IntKind.i64.wrap ((d : Int) - 1) = (D : Int) := by rw [IntWalk.i64_in _ (by omega)]; omega
 have hup := dby_up y hy.2 hy.1
 have HDD := hyd hD
 have hDb : D ≤ 31 := by omega
 obtain ⟨L, hL⟩ : ∃ L, ml y m = L := ⟨_, rfl⟩
 have HL := hyd hL
 rw [hL] at hd hmb
 clear hD hL
 have g1 : decide ((d : Int) < 1) = false := decide_eq_false (by omega)
 have g2 : decide (L < d) = false := decide_eq_false (by omega)
 go_enter Tryz.func205, Tryz.ntmps205
 go_wp2_with fail
 refine (rlast_any y m _ ⟨hy.1, by omega⟩ hm).mono ?_; rintro e w' ⟨rfl, rfl⟩
 rw [last_ok hy.2, HL.out]
 go_wp2_with fail
 go_loopg [10, 11] (y - 1) (fun g v10 v11 wr => ∃ i : Nat, g = y - i ∧ (1 ≤ i ∧ i ≤ y) ∧ v11 = .int .i64 i ∧ v10 = .int .i64 ((D + dby i : Nat) : Int) ∧ wr = w)
 case atStart => exact ⟨1, rfl, by omega, rfl, by rw [dby_one]; rfl, rfl⟩
 case round =>
  obtain ⟨i, hgk, hi, rfl, rfl, rfl⟩ := hrel
  have HG := hyd hgk; clear hgk hsub
  by_cases hlt : i < y
  · have H1 := hyd (year_any i wr (by omega))
    have hb := yl_bd i
    have hdb := dby_up i (by omega) hi.1
    have HC := hyd (dby_succ hi.1)
    go_wp2_with fail
    refine H1.out.mono ?_; rintro e w' ⟨rfl, rfl⟩
    generalize yl i = l at *
    generalize dby i = c at *
    go_wp2_with fail
    go_roundg (y - (i + 1))
    case measure => have := HG.out; omega
    case rel => exact ⟨i + 1, rfl, by omega, by go_num, by rw [HC.out]; go_num, rfl⟩
  · have hiy : i = y := by omega
    rw [hiy]
    clear hi hlt hiy HG
    go_wp2_with fail
    go_loopg [10, 12] (m - 1) (fun g v10 v12 wx => ∃ k : Nat, g = m - k ∧ (1 ≤ k ∧ k ≤ m) ∧ v12 = .int .i64 k ∧ v10 = .int .i64 ((D + dby y + cumM y k : Nat) : Int) ∧ wx = wr)
    case atStart => exact ⟨1, rfl, by omega, rfl, by rw [cumM_one]; rfl, rfl⟩
    case round =>
     obtain ⟨k, hgk, hk, rfl, rfl, rfl⟩ := hrel
     have HG := hyd hgk; clear hgk
     by_cases hlt : k < m
     · have H1 := hyd (rlast_any y k wr ⟨hy.1, by omega⟩ (by omega))
       have hc := cumM_up y k; have hb := ml_bd y k
       have HC := hyd (cumM_succ y (m := k) (by omega))
       go_wp2_with fail
       refine H1.out.mono ?_; rintro e w' ⟨rfl, rfl⟩
       rw [last_ok hy.2]
       generalize ml y k = l at *
       generalize cumM y k = c at *
       go_wp2_with fail
       go_roundg (m - (k + 1))
       case measure => have := HG.out; omega
       case rel => exact ⟨k + 1, rfl, by omega, by go_num, by rw [HC.out]; go_num, rfl⟩
     · have hkN : k = m := by omega
       rw [hkN]
       go_wp2_with fail
       go_ret2
       refine ⟨ret_pr (Prod.ext ?_ rfl), rfl⟩
       have := HDD.out
       simp
       omega
theorem rdate_any (N : Nat) (w : World) (hN : N ≤ 3652058) :
  Calls Tryz.prog 203 #[.int .i64 N] w fun e w' => (∃ y m d : Nat, IsD N y m d ∧ y ≤ 9999 ∧ e = .returned (pr4 y m d 0)) ∧ w = w' := by
 have h0' : ¬ (N : Int) < 0 := by omega
 have h1' : ¬ 3652058 < (N : Int) := by omega
 have HNN := hyd hN
 go_enter Tryz.func203, Tryz.ntmps203
 go_wp2_with fail
 clear h0' h1'
 go_loopg [0, 6] N (fun gh v0 v6 wr => ∃ n y : Nat, gh = n ∧ 1 ≤ y ∧ v0 = .int .i64 n ∧ v6 = .int .i64 y ∧ N = dby y + n ∧ wr = w)
 case atStart => exact ⟨N, 1, rfl, Nat.le_refl _, rfl, rfl, by rw [dby_one]; omega, rfl⟩
 case round =>
  obtain ⟨n, y, hg, hy1, rfl, rfl, hn, rfl⟩ := hrel
  have hy2 : y ≤ 9999 := dby_inj (by omega)
  have HG := hyd hg; have HN1 := hyd hn
  have hnb : n ≤ 3652058 := by omega
  have H1 := hyd (year_any y wr (by omega))
  have hb := yl_bd y
  have HC := hyd (dby_succ hy1)
  have HCY := hyd (cumM_year y)
  clear hg hn hN
  obtain ⟨l, hl⟩ : ∃ l, yl y = l := ⟨_, rfl⟩
  have HLY := hyd hl
  rw [hl] at H1 hb
  clear hl
  by_cases hln : l ≤ n
  · have hsub : IntKind.i64.wrap ((n : Int) - l) = ((n - l : Nat) : Int) := by rw [IntWalk.i64_in _ (by omega)]; omega
    go_wp2_with fail
    refine H1.out.mono ?_; rintro e w' ⟨rfl, rfl⟩
    go_wp2_with fail
    refine H1.out.mono ?_; rintro e w' ⟨rfl, rfl⟩
    go_wp2_with fail
    go_roundg (n - l)
    case measure => have := HG.out; omega
    case rel => exact ⟨n - l, y + 1, rfl, by omega, rfl, by go_num, by have := HN1.out; have := HC.out; have := HLY.out; omega, rfl⟩
  · go_wp2_with fail
    refine H1.out.mono ?_; rintro e w' ⟨rfl, rfl⟩
    have HLT : Hid (n < l) := by show n < l; omega
    go_wp2_with fail
    clear hln
    go_loopg [0, 7, 8, 9] 11 (fun gh v0 v7 v8 v9 wx => ∃ m r : Nat, gh = 12 - m ∧ (1 ≤ m ∧ m ≤ 12) ∧ v7 = .int .i64 m ∧ v0 = .int .i64 r ∧ n = cumM y m + r ∧ wx = wr)
    case atStart => exact ⟨1, n, rfl, by omega, rfl, rfl, by rw [cumM_one]; omega, rfl⟩
    case round =>
     obtain ⟨m, r, hgm, hm, rfl, rfl, hrn, rfl⟩ := hrel
     have HGM := hyd hgm; have HRN := hyd hrn
     have hrb : r ≤ 366 := by have := HLT.out; omega
     clear hgm hrn
     have HL := hyd (rlast_any y m wr ⟨hy1, by omega⟩ hm)
     go_wp2_with fail
     refine HL.out.mono ?_; rintro e w' ⟨rfl, rfl⟩
     rw [last_ok hy2]
     have hmb := ml_bd y m
     have HCS := hyd (cumM_succ y hm.1)
     obtain ⟨k, hk⟩ : ∃ k, ml y m = k := ⟨_, rfl⟩
     have HML := hyd hk
     rw [hk] at hmb ⊢
     clear hk
     by_cases hlr : r < k
     · go_wp2_with fail
       refine bodyPost_ret (results_tmp4 rfl _ _ _) rfl ?_
       exact ⟨⟨y, m, r + 1, ⟨hy1, hm, ⟨by omega, by have := HML.out; omega⟩, by have := HN1.out; have := HRN.out; omega⟩, hy2, by rfl⟩, rfl⟩
     · have hsub : IntKind.i64.wrap ((r : Int) - k) = ((r - k : Nat) : Int) := by rw [IntWalk.i64_in _ (by omega)]; omega
       have hm12 : m < 12 := by
        rcases Nat.lt_or_ge m 12 with h | h
        · exact h
        · have e : m = 12 := by omega
          subst e
          have h1 : cumM y 13 = cumM y 12 + ml y 12 := cumM_succ y (m := 12) (by omega)
          have := HCY.out; have := HLT.out; have := HRN.out; have := HML.out; have := HLY.out; omega
       go_wp2_with fail
       go_roundg (12 - (m + 1))
       case measure => have := HGM.out; omega
       case rel => exact ⟨m + 1, r - k, rfl, by omega, by go_num, rfl, by have := HRN.out; have := HCS.out; have := HML.out; omega, rfl⟩
theorem rmonths_any (N k : Nat) (w : World) (hN : N ≤ 3652058) (hk : k ≤ 120000) :
  Calls Tryz.prog 191 #[.int .i64 N, .int .i64 k] w fun e w' => e = .returned (pr (monthsV (addD N k))) ∧ w = w' := by
 go_enter Tryz.func191, Tryz.ntmps191
 go_wp2_with fail
 refine (rdate_any N w hN).mono ?_; rintro e w1 ⟨⟨y, m, d, hd, hy, rfl⟩, rfl⟩
 have hmi := mi_eq hd
 have HA : Hid (addD N k = addM (12 * y + (m - 1)) d k) := by show _ = _; unfold addD; rw [hmi]
 have y1 := hd.1; have hm1 := hd.2.1.1; have hm2 := hd.2.1.2; have hd1 := hd.2.2.1.1; have hd2 := hd.2.2.1.2
 obtain ⟨I, hI⟩ : ∃ I, I = 12 * y + (m - 1) + k := ⟨_, rfl⟩
 have hb := ml_bd y m
 obtain ⟨J, hJ⟩ : ∃ J, J = m + k := ⟨_, rfl⟩
 have hadd : (m : Int) + (k : Int) = (J : Int) := by omega
 have hJb : J ≤ 130000 := by omega
 have hJ1 : 1 ≤ J := by omega
 have hIb : I ≤ 300000 := by omega
 have hI12 : 12 ≤ I := by omega
 have k0 : decide ((k : Int) < -120000) = false := decide_eq_false (by omega)
 have k1 : decide (120000 < (k : Int)) = false := decide_eq_false (by omega)
 have HI := hyd hI
 have HIJ : Hid (I = 12 * y + (J - 1)) := by show _ = _; omega
 clear hI hmi hd hJ
 go_wp2_with fail
 clear hadd
 go_loopg [6, 7] J (fun gh v6 v7 wr => ∃ a b : Nat, gh = b ∧ (1 ≤ a ∧ 1 ≤ b ∧ b ≤ 130000 ∧ a ≤ 30000) ∧ v6 = .int .i64 a ∧ v7 = .int .i64 b ∧ I = 12 * a + (b - 1) ∧ wr = w)
 case atStart => exact ⟨y, J, rfl, by omega, rfl, rfl, HIJ.out, rfl⟩
 case round =>
  obtain ⟨a, b, hg, hab, rfl, rfl, hi, rfl⟩ := hrel
  have HG := hyd hg; have HII := hyd hi
  clear hg hi
  obtain ⟨ha1, hb1, hb2, ha2⟩ := hab
  by_cases hlt : 12 < b
  · have hsub : IntKind.i64.wrap ((b : Int) - 12) = ((b - 12 : Nat) : Int) := by rw [IntWalk.i64_in _ (by omega)]; omega
    have ha3 : a + 1 ≤ 30000 := by have := HII.out; omega
    go_wp2_with fail
    go_roundg (b - 12)
    case measure => have := HG.out; omega
    case rel => exact ⟨a + 1, b - 12, rfl, by omega, by go_num, rfl, by have := HII.out; omega, rfl⟩
  · have HL := hyd (rlast_any a b wr (by have := HII.out; omega) (by omega))
    have HE : Hid (I / 12 = a ∧ I % 12 + 1 = b) := by have := HII.out; show _ ∧ _; omega
    go_wp2_with fail
    refine wp_loop_rounds 1 ?_
    rw [rounds_succ]
    go_wp2_with fail
    refine HL.out.mono ?_; rintro e w' ⟨rfl, rfl⟩
    by_cases h99 : a ≤ 9999
    · rw [last_ok h99]
      have hb2 := ml_bd a b
      have HML : Hid (mlen I = ml a b) := by show _ = _; unfold mlen; rw [HE.out.1, HE.out.2]
      have HMS : Hid (Go.Proofs.YtbjjgnaojoaoiaaGreat.ms I = dby a + cumM a b) := by show _ = _; unfold Go.Proofs.YtbjjgnaojoaoiaaGreat.ms; rw [HE.out.1, HE.out.2]
      have HAS : Hid (addM (12 * y + (m - 1)) d k = some (Go.Proofs.YtbjjgnaojoaoiaaGreat.ms I + (min d (mlen I) - 1))) := by show _ = _; rw [addM_some (by rw [← HI.out, HE.out.1]; exact h99), ← HI.out]
      have hds := rdays_any a b (min d (ml a b)) wr (by omega) (by omega) (by omega)
      generalize ml a b = L at *
      have HR : Hid (monthsV (addD N k) = (((dby a + cumM a b + (min d L - 1) : Nat) : Int), 0)) := by show _ = _; rw [HA.out, HAS.out, HMS.out, HML.out]; rfl
      by_cases hdl : d ≤ L
      · rw [Nat.min_eq_left hdl] at hds HR
        have HDS := hyd hds; clear hds
        go_wp2_with fail
        refine HDS.out.mono ?_; rintro e w' ⟨rfl, rfl⟩
        go_wp2_with fail
        go_ret2
        exact ⟨ret_pr (by rw [HR.out]; simp), rfl⟩
      · rw [Nat.min_eq_right (by omega)] at hds HR
        have HDS := hyd hds; clear hds
        have hdl' : ¬ (d : Int) ≤ (L : Int) := by omega
        go_wp2_with fail
        refine HDS.out.mono ?_; rintro e w' ⟨rfl, rfl⟩
        go_wp2_with fail
        go_ret2
        exact ⟨ret_pr (by rw [HR.out]; simp), rfl⟩
    · have e : lastS a b = (0, 1) := if_neg h99
      have HAS : Hid (addM (12 * y + (m - 1)) d k = none) := by show _ = _; rw [addM_none (by rw [← HI.out, HE.out.1]; exact h99)]
      rw [e]
      go_wp2_with fail
      go_ret2
      exact ⟨by rw [HA.out, HAS.out]; rfl, rfl⟩
theorem day_any (A : Option Addr) (zs : List Int) (c : Nat) (w : World) (hr : Rd w w.heap.size 1 A zs.length (ints zs)) (hm : zs.length ≤ maxLen) :
  Calls Tryz.prog 173 #[.slice A zs.length c] w fun e w' => e = .returned (.bool (zs.all dayB)) ∧ w = w' := by
 unfold maxLen at hm
 go_enter Tryz.func173, Tryz.ntmps173
 go_wp2
 go_loop [7] (fun i => ∃ k : Nat, k ≤ zs.length ∧ i = .int .i64 k ∧ (zs.take k).all dayB = true) (fun i => zs.length - (intOf i).toNat)
 case atStart => exact ⟨0, Nat.zero_le _, rfl, rfl⟩
 case round =>
  obtain ⟨k, hk, rfl, hall⟩ := hrel
  have HA := hyd hall; clear hall
  by_cases hlt : k < zs.length
  · obtain ⟨b, off, rfl, hb, hc⟩ := hr.2 (by omega)
    have hcell := (hc k (by omega)).trans (ints_at zs k hlt)
    clear hc
    by_cases ha : dayB zs[k] = true
    · have hb := dayB_yes ha
      have HX := hyd ha; clear ha
      go_wp2
      exact ⟨⟨k + 1, by omega, by go_num, by rw [all_snoc _ _ _ hlt, HA.out, HX.out]; rfl⟩, by simp [intOf]; omega⟩
    · have hb := dayB_no ha
      have HX := hyd (all_no dayB zs k hlt ha); clear ha
      go_wp2
      all_goals (go_ret; exact ⟨ret_bool HX.out.symm, rfl⟩)
  · go_wp2
    go_ret
    exact ⟨ret_bool (by rw [← HA.out, List.take_of_length_le (by omega)]), rfl⟩
theorem day2 (a b : Int) (w : World) : Calls Tryz.prog 173 #[.slice (some ⟨w.heap.size, 0, none⟩) 2 2] (w.alloc (.cells #[.int .i64 a, .int .i64 b] 3)) fun e w' => e = .returned (.bool (dayB a && dayB b)) ∧ w.alloc (.cells #[.int .i64 a, .int .i64 b] 3) = w' :=
 (day_any (some ⟨w.heap.size, 0, none⟩) [a, b] 2 _ (Rd.fresh w #[.int .i64 a, .int .i64 b] 3 2 1 rfl) (by simp [maxLen])).mono fun _ _ ⟨h, g⟩ => ⟨by rw [h]; simp, g⟩
noncomputable def lateS (due filed : Int) : Int × Int := if dayB due && dayB filed then (((lateD due.toNat filed.toNat : Nat) : Int), 0) else (0, 1)
theorem amonths_any (due filed : Int) (w : World) : Calls Tryz.prog 140 #[.int .i64 due, .int .i64 filed] w fun e w' => e = .returned (pr (lateS due filed)) ∧ Below w.heap.size w w' := by
 by_cases hdf : (dayB due && dayB filed) = true
 · obtain ⟨h1, h2⟩ : dayB due = true ∧ dayB filed = true := by simpa using hdf
   have b1 := dayB_yes h1; have b2 := dayB_yes h2
   obtain ⟨D, rfl⟩ : ∃ D : Nat, due = (D : Int) := ⟨due.toNat, by omega⟩
   obtain ⟨F, rfl⟩ : ∃ F : Nat, filed = (F : Int) := ⟨filed.toNat, by omega⟩
   have hD : D ≤ 3652058 := by omega
   have hF : F ≤ 3652058 := by omega
   have HS : Hid (lateS (D : Int) (F : Int) = (((lateD D F : Nat) : Int), 0)) := if_pos hdf
   clear h1 h2 b1 b2
   by_cases hle : F ≤ D
   · have HL : Hid (lateD D F = 0) := if_pos hle
     have hle' : (F : Int) ≤ (D : Int) := by omega
     go_enter Tryz.func140, Tryz.ntmps140
     go_wp2_with fail
     refine (day2 D F w).mono ?_; rintro e w' ⟨rfl, rfl⟩
     rw [hdf]; clear hdf
     go_wp2_with fail
     go_ret2
     exact ⟨ret_pr (by rw [HS.out, HL.out]; rfl), below_new _ _⟩
   · have hle' : ¬ (F : Int) ≤ (D : Int) := by omega
     have HL : Hid (lateD D F = lateM (mi D).1 (mi D).2 (mi F).1 (mi F).2) := if_neg hle
     go_enter Tryz.func140, Tryz.ntmps140
     go_wp2_with fail
     refine (day2 D F w).mono ?_; rintro e w' ⟨rfl, rfl⟩
     rw [hdf]; clear hdf
     go_wp2_with fail
     refine (date_any D _ hD).mono ?_; rintro e w1 ⟨⟨y, m, d, hd, hy, rfl⟩, hw1⟩
     have HD := hyd hd; have HW1 := hyd hw1; clear hd hw1
     go_wp2_with fail
     refine (date_any F _ hF).mono ?_; rintro e w2 ⟨⟨z, k, f, hf, hz, rfl⟩, hw2⟩
     have HFF := hyd hf; have HW2 := hyd hw2; clear hf hw2
     have hord := HD.out.order HFF.out (by omega)
     have hm := HD.out.2.1; have hk := HFF.out.2.1
     obtain ⟨Z, hZ⟩ : ∃ Z, Z = z - y := ⟨_, rfl⟩
     obtain ⟨n, hn⟩ : ∃ n, n = 12 * Z + k - m := ⟨_, rfl⟩
     have hzy : y ≤ z := by omega
     have s1 : IntKind.i64.wrap ((z : Int) - y) = (Z : Int) := by rw [IntWalk.i64_in _ (by omega)]; omega
     have s2 : IntKind.i64.wrap (12 * (Z : Int) + k - m) = (n : Int) := by rw [IntWalk.i64_in _ (by omega)]; omega
     have hZb : Z ≤ 10000 := by omega
     have hmb : m ≤ 12 := hm.2
     have hkb : k ≤ 12 := hk.2
     have hnb : n ≤ 120000 := by omega
     have HIJ : Hid (12 * y + (m - 1) + n = 12 * z + (k - 1)) := by show _ = _; omega
     have HN : Hid (n = (12 * z + (k - 1)) - (12 * y + (m - 1))) := by show _ = _; omega
     have HMS : Hid (F = ms (12 * z + (k - 1)) + (f - 1)) := HFF.out.ms.1
     have HF1 : Hid (1 ≤ f) := HFF.out.ms.2.2.1
     have HD1 : Hid (1 ≤ d ∧ 28 ≤ mlen (12 * z + (k - 1))) := ⟨HD.out.ms.2.2.1, (ml_bd _ _).1⟩
     have HA : Hid (addD D n = some (ms (12 * z + (k - 1)) + (min d (mlen (12 * z + (k - 1))) - 1))) := by
      show _ = _; unfold addD; rw [mi_eq HD.out]; simp only; rw [addM_some (by rw [HIJ.out]; omega), HIJ.out]
     have HLL : Hid (lateD D F = if min d (mlen (12 * z + (k - 1))) < f then n + 1 else n) := by
      show _ = _; rw [HL.out, mi_eq HD.out, mi_eq HFF.out]; simp only [lateM]; rw [← HN.out]
     obtain ⟨x, hx⟩ : ∃ x, ms (12 * z + (k - 1)) + (min d (mlen (12 * z + (k - 1))) - 1) = x := ⟨_, rfl⟩
     rw [hx] at HA
     have HX := hyd hx
     clear hx hord hm hk hZ hn hzy
     have HMM := hyd (months_any D n w2 hD hnb)
     have HB2 : Hid (Below w.heap.size w w2) := ((below_new w _).trans (HW1.out.mono (by simp))).trans (HW2.out.mono (by have := HW1.out.size; simp at this; omega))
     go_wp2_with fail
     refine HMM.out.mono ?_; rintro e w3 ⟨rfl, hw3⟩
     have HB3 : Hid (Below w.heap.size w w3) := HB2.out.trans (hw3.mono HB2.out.size)
     clear hw3
     rw [HA.out]
     simp only [monthsV]
     by_cases hxf : x < F
     · have HE : Hid (lateD D F = n + 1) := by
         show _ = _; rw [HLL.out, if_pos]
         have := HX.out; have := HMS.out; have := HF1.out; have := HD1.out; omega
       go_wp2_with fail
       go_ret2
       exact ⟨ret_pr (by rw [HS.out, HE.out]; simp), HB3.out⟩
     · have HE : Hid (lateD D F = n) := by
         show _ = _; rw [HLL.out, if_neg]
         have := HX.out; have := HMS.out; have := HF1.out; have := HD1.out; omega
       go_wp2_with fail
       go_ret2
       exact ⟨ret_pr (by rw [HS.out, HE.out]), HB3.out⟩
 · have HS : Hid (lateS due filed = (0, 1)) := if_neg hdf
   go_enter Tryz.func140, Tryz.ntmps140
   go_wp2_with fail
   refine (day2 due filed w).mono ?_; rintro e w' ⟨rfl, rfl⟩
   rw [Bool.eq_false_iff.2 hdf]; clear hdf
   go_wp2_with fail
   go_ret2
   exact ⟨ret_pr HS.out, below_new _ _⟩
theorem isDay_any (n : Int) (w : World) : Calls Tryz.prog 65 #[.int .i64 n] w fun e w' => e = .returned (.bool (dayB n)) ∧ w = w' := by
 by_cases h : dayB n = true
 · have h1 := dayB_yes h
   have H := hyd h; clear h
   go_enter Tryz.func65, Tryz.ntmps65
   go_wp2
   go_ret
   exact ⟨ret_bool H.out.symm, rfl⟩
 · have h1 := dayB_no h
   have H := hyd (Bool.eq_false_iff.2 h); clear h
   rcases h1 with h1 | h1
   all_goals
    go_enter Tryz.func65, Tryz.ntmps65
    go_wp2
    all_goals go_ret
    all_goals exact ⟨ret_bool (by first | exact H.out.symm | (rw [H.out]; simp; omega)), rfl⟩
theorem isMoney_any (n : Int) (w : World) : Calls Tryz.prog 149 #[.int .i64 n] w fun e w' => e = .returned (.bool (mny n)) ∧ w = w' := by
 by_cases h : mny n = true
 · have h1 := mny_yes h
   have H := hyd h; clear h
   go_enter Tryz.func149, Tryz.ntmps149
   go_wp2
   go_ret
   exact ⟨ret_bool H.out.symm, rfl⟩
 · have h1 := mny_no h
   have H := hyd (Bool.eq_false_iff.2 h); clear h
   rcases h1 with h1 | h1
   all_goals
    go_enter Tryz.func149, Tryz.ntmps149
    go_wp2
    all_goals go_ret
    all_goals exact ⟨ret_bool (by first | exact H.out.symm | (rw [H.out]; simp; omega)), rfl⟩
theorem monthsV_cases (o : Option Nat) : (∃ x, o = some x ∧ monthsV o = ((x : Int), 0)) ∨ (o = none ∧ monthsV o = (0, 2)) := by
 cases o with
 | some x => exact .inl ⟨x, rfl, rfl⟩
 | none => exact .inr ⟨rfl, rfl⟩
theorem few_any (D F : Nat) (w : World) (hD : D ≤ 3652058) (hF : F ≤ 3652058) : Calls Tryz.prog 157 #[.int .i64 D, .int .i64 F] w fun e w' => e = .returned (.int .i64 (min (lateD D F) 61 : Nat)) ∧ w = w' := by
 obtain ⟨L, hL⟩ : ∃ L, lateD D F = L := ⟨_, rfl⟩
 have HLT : Hid (∀ n, n < L → ∃ x, addD D n = some x ∧ x < F) := hyd (fun n hn => late_lt hD hF (by rw [hL]; exact hn))
 have HEQ : Hid (∀ x, addD D L = some x → F ≤ x) := hyd (fun x hx => late_eq hD hF x (by rw [hL]; exact hx))
 rw [hL]
 clear hL
 go_enter Tryz.func157, Tryz.ntmps157
 go_wp2_with fail
 go_loopg [5, 6, 7] 61 (fun g v5 v6 v7 wr => ∃ n : Nat, g = 61 - n ∧ n ≤ L ∧ n ≤ 61 ∧ v5 = .int .i64 n ∧ wr = w)
 case atStart => exact ⟨0, rfl, by omega, by omega, rfl, rfl⟩
 case round =>
  obtain ⟨n, hg, hn, hn2, rfl, rfl⟩ := hrel
  have HG := hyd hg; clear hg
  by_cases h61 : n < 61
  · have HM := hyd (rmonths_any D n wr hD (by omega))
    go_wp2_with fail
    refine HM.out.mono ?_; rintro e w' ⟨rfl, rfl⟩
    by_cases hlt : n < L
    · obtain ⟨x, hx, hxf⟩ := HLT.out n hlt
      have e : monthsV (addD D n) = ((x : Int), 0) := by rw [hx]; rfl
      rw [e]
      clear e hx
      go_wp2_with fail
      go_roundg (61 - (n + 1))
      case measure => have := HG.out; omega
      case rel => exact ⟨n + 1, rfl, by omega, by omega, by go_num, rfl⟩
    · have hnL : n = L := by omega
      have HE : Hid (min L 61 = n) := by show _ = _; omega
      rcases monthsV_cases (addD D n) with ⟨x, hx, e⟩ | ⟨hx, e⟩
      · have hxf := HEQ.out x (by rw [← hnL]; exact hx)
        rw [e]
        clear e hx
        go_wp2_with fail
        go_ret
        exact ⟨by rw [HE.out]; first | rfl | (rw [hnL]; rfl) | (rw [hn61]; rfl), rfl⟩
      · rw [e]
        clear e hx
        go_wp2_with fail
        go_ret
        exact ⟨by rw [HE.out]; first | rfl | (rw [hnL]; rfl) | (rw [hn61]; rfl), rfl⟩
  · have hn61 : n = 61 := by omega
    have HE : Hid (min L 61 = n) := by show _ = _; omega
    go_wp2_with fail
    go_ret
    exact ⟨by rw [HE.out]; first | rfl | (rw [hnL]; rfl) | (rw [hn61]; rfl), rfl⟩
@[reducible] def retV (r : Ret) : Value := .agg #[.int .i64 r.per, .int .i64 r.due, .int .i64 r.filed, .int .i64 r.inc, .int .i64 r.wh]
theorem day2g (a b : Int) (g : Nat) (w : World) (hg : g = w.heap.size) : Calls Tryz.prog 173 #[.slice (some ⟨g, 0, none⟩) 2 2] (w.alloc (.cells #[.int .i64 a, .int .i64 b] 3)) fun e w' => e = .returned (.bool (dayB a && dayB b)) ∧ w.alloc (.cells #[.int .i64 a, .int .i64 b] 3) = w' := by subst hg; exact day2 a b w
theorem fright_any (r : Ret) (w : World) : Calls Tryz.prog 139 #[retV r] w fun e w' => e = .returned (.bool (retB r)) ∧ Below w.heap.size w w' := by
 obtain ⟨D, hD⟩ : ∃ D, (dayB r.due && dayB r.filed) = D := ⟨_, rfl⟩
 have HDY := hyd (day2g r.due r.filed (w.heap.size + 1) (w.alloc (.cells #[.int .i64 r.per, .int .i64 r.due, .int .i64 r.filed, .int .i64 r.inc, .int .i64 r.wh] 136)) (by simp))
 by_cases hp : 1 ≤ r.per ∧ r.per ≤ 99999
 · by_cases hm : (mny r.inc && mny r.wh) = true
   · have HR : Hid (retB r = D) := by
       show _ = _
       have hm' : mny r.inc = true ∧ mny r.wh = true := by simpa using hm
       rw [← hD, retB, decide_eq_true hp, hm'.1, hm'.2]; simp
     have h1 := mny_yes (show mny r.inc = true by simp at hm; exact hm.1)
     have h2 := mny_yes (show mny r.wh = true by simp at hm; exact hm.2)
     rw [hD] at HDY
     clear hm hD
     go_enter Tryz.func139, Tryz.ntmps139
     go_wp2_with fail
     all_goals
      refine HDY.out.mono ?_; rintro e w' ⟨rfl, rfl⟩
      cases D
      all_goals
       go_wp2_with fail
       go_ret
       exact ⟨ret_bool (by rw [HR.out]; try first | rfl | (simp; done) | (simp; omega)), bly⟩
   · have HR : Hid (retB r = false) := by
       show _ = _
       rw [Bool.eq_false_iff]; intro h; have := retB_yes h
       exact hm (by rw [this.2.2.2.1, this.2.2.2.2]; rfl)
     have hbad : r.inc < 0 ∨ r.wh < 0 ∨ (0 ≤ r.inc ∧ 0 ≤ r.wh) ∧ (1125899906842624 < r.inc ∨ 1125899906842624 < r.wh) := by
      by_cases h1 : mny r.inc = true
      · have h2 : ¬ mny r.wh = true := fun h2 => hm (by rw [h1, h2]; rfl)
        have := mny_yes h1; have := mny_no h2; omega
      · have := mny_no h1; omega
     rw [hD] at HDY
     clear hm hD
     rcases hbad with h | h | ⟨⟨h1, h2⟩, h | h⟩
     all_goals
      go_enter Tryz.func139, Tryz.ntmps139
      go_wp2_with fail
      all_goals
       refine HDY.out.mono ?_; rintro e w' ⟨rfl, rfl⟩
       cases D
       all_goals
        go_wp2_with fail
        go_ret
        exact ⟨ret_bool (by rw [HR.out]; try first | rfl | (simp; done) | (simp; omega)), bly⟩
 · have HR : Hid (retB r = false) := by
     show _ = _
     rw [Bool.eq_false_iff]; intro h; exact hp (retB_yes h).1
   have hbad : r.per < 1 ∨ 99999 < r.per := by omega
   clear hp hD
   rcases hbad with h | h
   all_goals
    go_enter Tryz.func139, Tryz.ntmps139
    go_wp2_with fail
    all_goals go_ret
    all_goals exact ⟨ret_bool HR.out.symm, bly⟩
theorem aright_any (r : Ret) (w : World) : Calls Tryz.prog 89 #[retV r] w fun e w' => e = .returned (.bool (retB r)) ∧ Below w.heap.size w w' := by
 have HF := hyd (fright_any r (w.alloc (.cells #[.int .i64 r.per, .int .i64 r.due, .int .i64 r.filed, .int .i64 r.inc, .int .i64 r.wh] 37)))
 go_enter Tryz.func89, Tryz.ntmps89
 go_wp2_with fail
 refine HF.out.mono ?_; rintro e w1 ⟨rfl, hw1⟩
 have HW1 := hyd ((below_new w _).trans (hw1.mono (by simp)))
 clear hw1
 go_wp2_with fail
 go_ret
 exact ⟨rfl, HW1.out⟩
theorem late_any (r : Ret) (w : World) (h1 : dayB r.due = true) (h2 : dayB r.filed = true) : Calls Tryz.prog 90 #[retV r] w fun e w' => e = .returned (.int .i64 (lateI r)) ∧ Below w.heap.size w w' := by
 have HF := hyd (amonths_any r.due r.filed (w.alloc (.cells #[.int .i64 r.per, .int .i64 r.due, .int .i64 r.filed, .int .i64 r.inc, .int .i64 r.wh] 136)))
 have he : lateS r.due r.filed = (lateI r, 0) := if_pos (by rw [h1, h2]; rfl)
 rw [he] at HF
 clear he h1 h2
 go_enter Tryz.func90, Tryz.ntmps90
 go_wp2_with fail
 refine HF.out.mono ?_; rintro e w1 ⟨rfl, hw1⟩
 have HW1 := hyd ((below_new w _).trans (hw1.mono (by simp)))
 clear hw1
 go_wp2_with fail
 go_ret
 exact ⟨rfl, HW1.out⟩
theorem rretright_any (r : Ret) (w : World) : Calls Tryz.prog 155 #[retV r] w fun e w' => e = .returned (.bool (retB r)) ∧ Below w.heap.size w w' := by
 obtain ⟨d1, h1⟩ : ∃ d, dayB r.due = d := ⟨_, rfl⟩
 obtain ⟨d2, h2⟩ : ∃ d, dayB r.filed = d := ⟨_, rfl⟩
 obtain ⟨d3, h3⟩ : ∃ d, mny r.inc = d := ⟨_, rfl⟩
 obtain ⟨d4, h4⟩ : ∃ d, mny r.wh = d := ⟨_, rfl⟩
 have HR : Hid (retB r = (decide (1 ≤ r.per ∧ r.per ≤ 99999) && d1 && d2 && d3 && d4)) := by show _ = _; rw [retB, h1, h2, h3, h4]
 have i1 := fun wx => isDay_any r.due wx
 have i2 := fun wx => isDay_any r.filed wx
 have i3 := fun wx => isMoney_any r.inc wx
 have i4 := fun wx => isMoney_any r.wh wx
 rw [h1] at i1; rw [h2] at i2; rw [h3] at i3; rw [h4] at i4
 have I1 := hyd i1; have I2 := hyd i2; have I3 := hyd i3; have I4 := hyd i4
 clear i1 i2 i3 i4 h1 h2 h3 h4
 by_cases hp : 1 ≤ r.per ∧ r.per ≤ 99999
 · rw [decide_eq_true hp] at HR
   obtain ⟨p1, p2⟩ := hp
   go_enter Tryz.func155, Tryz.ntmps155
   go_wp2_with fail
   refine (I1.out _).mono ?_; rintro e w' ⟨rfl, rfl⟩
   go_wp2_with fail
   refine (I2.out _).mono ?_; rintro e w' ⟨rfl, rfl⟩
   go_wp2_with fail
   refine (I3.out _).mono ?_; rintro e w' ⟨rfl, rfl⟩
   go_wp2_with fail
   refine (I4.out _).mono ?_; rintro e w' ⟨rfl, rfl⟩
   cases d1 <;> cases d2 <;> cases d3 <;> cases d4
   all_goals
    go_wp2_with fail
    go_ret
    exact ⟨ret_bool (by rw [HR.out]; try first | rfl | (simp; done)), bly⟩
 · rw [decide_eq_false hp] at HR
   have hbad : r.per < 1 ∨ 99999 < r.per := by omega
   clear hp
   rcases hbad with h | h
   all_goals
    go_enter Tryz.func155, Tryz.ntmps155
    go_wp2_with fail
    refine (I1.out _).mono ?_; rintro e w' ⟨rfl, rfl⟩
    go_wp2_with fail
    refine (I2.out _).mono ?_; rintro e w' ⟨rfl, rfl⟩
    go_wp2_with fail
    refine (I3.out _).mono ?_; rintro e w' ⟨rfl, rfl⟩
    go_wp2_with fail
    refine (I4.out _).mono ?_; rintro e w' ⟨rfl, rfl⟩
    go_wp2_with fail
    all_goals go_ret
    all_goals exact ⟨ret_bool (by rw [HR.out]; try first | rfl | (simp; done)), bly⟩
end Go.Proofs.YtbjjgnaojoaoiaaGreat
