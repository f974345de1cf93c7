/- The reference's calendar. -/
import Derived.Test.YtilcgpaefkapaaaCV4
namespace Go.Proofs.Ytilcgpaefkapaaa
open Go.RowKit Go
set_option linter.unusedVariables false
set_option linter.unusedSimpArgs false

set_option maxHeartbeats 3400000 in
theorem rlast_any (y m : Nat) (w : World) (hy : 1 ≤ y ∧ y ≤ 40000) (hm : 1 ≤ m ∧ m ≤ 12) : Calls Try.prog 44 #[.int .i64 y, .int .i64 m] w fun e w' => e = .returned (pr (lastS y m)) ∧ w = w' := by
  by_cases h99 : y ≤ 9999
  · have HL : Hid (lastS y m = (((ml y m : Nat) : Int), 0)) := if_pos h99
    by_cases h2 : m = 2
    · subst h2
      by_cases hl : leapY y = true
      · have H : Hid (ml y 2 = 29) := by show _ = _; simp [ml, hl]
        go_enter Try.func44, Try.ntmps44
        go_wp2_with fail
        refine (rlong_any y _ hy.2).mono ?_; rintro e w' ⟨rfl, rfl⟩
        rw [hl]; clear hl
        go_wp2_with fail
        go_ret2
        exact ⟨ret_pr (by rw [HL.out, H.out]; rfl), rfl⟩
      · have H : Hid (ml y 2 = 28) := by show _ = _; simp [ml, hl]
        go_enter Try.func44, Try.ntmps44
        go_wp2_with fail
        refine (rlong_any y _ hy.2).mono ?_; rintro e w' ⟨rfl, rfl⟩
        rw [Bool.eq_false_iff.2 hl]; clear hl
        go_wp2_with fail
        go_ret2
        exact ⟨ret_pr (by rw [HL.out, H.out]; rfl), rfl⟩
    · have h : m = 1 ∨ m = 3 ∨ m = 4 ∨ m = 5 ∨ m = 6 ∨ m = 7 ∨ m = 8 ∨ m = 9 ∨ m = 10 ∨ m = 11 ∨ m = 12 := by omega
      rcases h with rfl | rfl | rfl | rfl | rfl | rfl | rfl | rfl | rfl | rfl | rfl
      all_goals
        go_enter Try.func44, Try.ntmps44
        go_wp2_with fail
        go_ret2
        exact ⟨ret_pr (by rw [HL.out]; simp [ml]), rfl⟩
  · have HL : Hid (lastS y m = (0, 1)) := if_neg h99
    go_enter Try.func44, Try.ntmps44
    go_wp2_with fail
    go_ret2
    exact ⟨ret_pr HL.out, rfl⟩
theorem dby_one : dby 1 = 0 := by decide
theorem yl_bd (y : Nat) : 365 ≤ yl y ∧ yl y ≤ 366 := by unfold yl; split <;> omega
set_option maxHeartbeats 1600000 in
theorem rdays_any (y m d : Nat) (w : World) (hy : 1 ≤ y ∧ y ≤ 9999) (hm : 1 ≤ m ∧ m ≤ 12) (hd : 1 ≤ d ∧ d ≤ ml y m) :
    Calls Try.prog 45 #[.int .i64 y, .int .i64 m, .int .i64 d] w fun e w' => e = .returned (pr (((dby y + cumM y m + (d - 1) : Nat) : Int), 0)) ∧ w = w' := by
  have hmb := ml_bd y m
  obtain ⟨D, hD⟩ : ∃ D, D = d - 1 := ⟨_, rfl⟩
  have hsub : IntKind.i64.wrap ((d : Int) - 1) = (D : Int) := by rw [IntWalk.i64_in _ (by omega)]; omega
  have hup := dby_up y hy.2 hy.1
  have HDD := Lib.hid hD
  have hDb : D ≤ 31 := by omega
  obtain ⟨L, hL⟩ : ∃ L, ml y m = L := ⟨_, rfl⟩
  have HL := Lib.hid hL
  rw [hL] at hd hmb
  clear hD hL
  have g1 : decide ((d : Int) < 1) = false := decide_eq_false (by omega)
  have g2 : decide (L < d) = false := decide_eq_false (by omega)
  go_enter Try.func45, Try.ntmps45
  go_wp2_with fail
  refine (rlast_any y m _ ⟨hy.1, by omega⟩ hm).mono ?_; rintro e w' ⟨rfl, rfl⟩
  rw [last_ok hy.2, HL.out]
  go_wp2_with fail
  go_loopg [10, 11] (y - 1) (fun g v10 v11 wr => ∃ i : Nat, g = y - i ∧ (1 ≤ i ∧ i ≤ y) ∧ v11 = .int .i64 i ∧ v10 = .int .i64 ((D + dby i : Nat) : Int) ∧ wr = w)
  case atStart => exact ⟨1, rfl, by omega, rfl, by rw [dby_one]; rfl, rfl⟩
  case round =>
    obtain ⟨i, hgk, hi, rfl, rfl, rfl⟩ := hrel
    have HG := Lib.hid hgk; clear hgk hsub
    by_cases hlt : i < y
    · have H1 := Lib.hid (year_any i wr (by omega))
      have hb := yl_bd i
      have hdb := dby_up i (by omega) hi.1
      have HC := Lib.hid (dby_succ hi.1)
      go_wp2_with fail
      refine H1.out.mono ?_; rintro e w' ⟨rfl, rfl⟩
      generalize yl i = l at *
      generalize dby i = c at *
      go_wp2_with fail
      go_roundg (y - (i + 1))
      case measure => have := HG.out; omega
      case rel => exact ⟨i + 1, rfl, by omega, by go_num, by rw [HC.out]; go_num, rfl⟩
    · have hiy : i = y := by omega
      rw [hiy]
      clear hi hlt hiy HG
      go_wp2_with fail
      go_loopg [10, 12] (m - 1) (fun g v10 v12 wx => ∃ k : Nat, g = m - k ∧ (1 ≤ k ∧ k ≤ m) ∧ v12 = .int .i64 k ∧ v10 = .int .i64 ((D + dby y + cumM y k : Nat) : Int) ∧ wx = wr)
      case atStart => exact ⟨1, rfl, by omega, rfl, by rw [cumM_one]; rfl, rfl⟩
      case round =>
        obtain ⟨k, hgk, hk, rfl, rfl, rfl⟩ := hrel
        have HG := Lib.hid hgk; clear hgk
        by_cases hlt : k < m
        · have H1 := Lib.hid (rlast_any y k wr ⟨hy.1, by omega⟩ (by omega))
          have hc := cumM_up y k; have hb := ml_bd y k
          have HC := Lib.hid (cumM_succ y (m := k) (by omega))
          go_wp2_with fail
          refine H1.out.mono ?_; rintro e w' ⟨rfl, rfl⟩
          rw [last_ok hy.2]
          generalize ml y k = l at *
          generalize cumM y k = c at *
          go_wp2_with fail
          go_roundg (m - (k + 1))
          case measure => have := HG.out; omega
          case rel => exact ⟨k + 1, rfl, by omega, by go_num, by rw [HC.out]; go_num, rfl⟩
        · have hkN : k = m := by omega
          rw [hkN]
          go_wp2_with fail
          go_ret2
          refine ⟨ret_pr (Prod.ext ?_ rfl), rfl⟩
          have := HDD.out
          simp
          omega

set_option maxHeartbeats 1600000 in
theorem rdate_any (N : Nat) (w : World) (hN : N ≤ 3652058) :
    Calls Try.prog 43 #[.int .i64 N] w fun e w' => (∃ y m d : Nat, IsD N y m d ∧ y ≤ 9999 ∧ e = .returned (pr4 y m d 0)) ∧ w = w' := by
  have h0' : ¬ (N : Int) < 0 := by omega
  have h1' : ¬ 3652058 < (N : Int) := by omega
  have HNN := Lib.hid hN
  go_enter Try.func43, Try.ntmps43
  go_wp2_with fail
  clear h0' h1'
  go_loopg [0, 6] N (fun gh v0 v6 wr => ∃ n y : Nat, gh = n ∧ 1 ≤ y ∧ v0 = .int .i64 n ∧ v6 = .int .i64 y ∧ N = dby y + n ∧ wr = w)
  case atStart => exact ⟨N, 1, rfl, Nat.le_refl _, rfl, rfl, by rw [dby_one]; omega, rfl⟩
  case round =>
    obtain ⟨n, y, hg, hy1, rfl, rfl, hn, rfl⟩ := hrel
    have hy2 : y ≤ 9999 := dby_inj (by omega)
    have HG := Lib.hid hg; have HN1 := Lib.hid hn
    have hnb : n ≤ 3652058 := by omega
    have H1 := Lib.hid (year_any y wr (by omega))
    have hb := yl_bd y
    have HC := Lib.hid (dby_succ hy1)
    have HCY := Lib.hid (cumM_year y)
    clear hg hn hN
    obtain ⟨l, hl⟩ : ∃ l, yl y = l := ⟨_, rfl⟩
    have HLY := Lib.hid hl
    rw [hl] at H1 hb
    clear hl
    by_cases hln : l ≤ n
    · have hsub : IntKind.i64.wrap ((n : Int) - l) = ((n - l : Nat) : Int) := by rw [IntWalk.i64_in _ (by omega)]; omega
      go_wp2_with fail
      refine H1.out.mono ?_; rintro e w' ⟨rfl, rfl⟩
      go_wp2_with fail
      refine H1.out.mono ?_; rintro e w' ⟨rfl, rfl⟩
      go_wp2_with fail
      go_roundg (n - l)
      case measure => have := HG.out; omega
      case rel => exact ⟨n - l, y + 1, rfl, by omega, rfl, by go_num, by have := HN1.out; have := HC.out; have := HLY.out; omega, rfl⟩
    · go_wp2_with fail
      refine H1.out.mono ?_; rintro e w' ⟨rfl, rfl⟩
      have HLT : Hid (n < l) := by show n < l; omega
      go_wp2_with fail
      clear hln
      go_loopg [0, 7, 8, 9] 11 (fun gh v0 v7 v8 v9 wx => ∃ m r : Nat, gh = 12 - m ∧ (1 ≤ m ∧ m ≤ 12) ∧ v7 = .int .i64 m ∧ v0 = .int .i64 r ∧ n = cumM y m + r ∧ wx = wr)
      case atStart => exact ⟨1, n, rfl, by omega, rfl, rfl, by rw [cumM_one]; omega, rfl⟩
      case round =>
        obtain ⟨m, r, hgm, hm, rfl, rfl, hrn, rfl⟩ := hrel
        have HGM := Lib.hid hgm; have HRN := Lib.hid hrn
        have hrb : r ≤ 366 := by have := HLT.out; omega
        clear hgm hrn
        have HL := Lib.hid (rlast_any y m wr ⟨hy1, by omega⟩ hm)
        go_wp2_with fail
        refine HL.out.mono ?_; rintro e w' ⟨rfl, rfl⟩
        rw [last_ok hy2]
        have hmb := ml_bd y m
        have HCS := Lib.hid (cumM_succ y hm.1)
        obtain ⟨k, hk⟩ : ∃ k, ml y m = k := ⟨_, rfl⟩
        have HML := Lib.hid hk
        rw [hk] at hmb ⊢
        clear hk
        by_cases hlr : r < k
        · go_wp2_with fail
          refine bodyPost_ret (results_tmp4 rfl _ _ _) rfl ?_
          exact ⟨⟨y, m, r + 1, ⟨hy1, hm, ⟨by omega, by have := HML.out; omega⟩, by have := HN1.out; have := HRN.out; omega⟩, hy2, by rfl⟩, rfl⟩
        · have hsub : IntKind.i64.wrap ((r : Int) - k) = ((r - k : Nat) : Int) := by rw [IntWalk.i64_in _ (by omega)]; omega
          have hm12 : m < 12 := by
            rcases Nat.lt_or_ge m 12 with h | h
            · exact h
            · have e : m = 12 := by omega
              subst e
              have h1 : cumM y 13 = cumM y 12 + ml y 12 := cumM_succ y (m := 12) (by omega)
              have := HCY.out; have := HLT.out; have := HRN.out; have := HML.out; have := HLY.out; omega
          go_wp2_with fail
          go_roundg (12 - (m + 1))
          case measure => have := HGM.out; omega
          case rel => exact ⟨m + 1, r - k, rfl, by omega, by go_num, rfl, by have := HRN.out; have := HCS.out; have := HML.out; omega, rfl⟩
set_option maxHeartbeats 1600000 in
theorem rmonths_any (N k : Nat) (w : World) (hN : N ≤ 3652058) (hk : k ≤ 120000) :
    Calls Try.prog 24 #[.int .i64 N, .int .i64 k] w fun e w' => e = .returned (pr (monthsV (addD N k))) ∧ w = w' := by
  go_enter Try.func24, Try.ntmps24
  go_wp2_with fail
  refine (rdate_any N w hN).mono ?_; rintro e w1 ⟨⟨y, m, d, hd, hy, rfl⟩, rfl⟩
  have hmi := mi_eq hd
  have HA : Hid (addD N k = addM (12 * y + (m - 1)) d k) := by show _ = _; unfold addD; rw [hmi]
  have y1 := hd.1; have hm1 := hd.2.1.1; have hm2 := hd.2.1.2; have hd1 := hd.2.2.1.1; have hd2 := hd.2.2.1.2
  obtain ⟨I, hI⟩ : ∃ I, I = 12 * y + (m - 1) + k := ⟨_, rfl⟩
  have hb := ml_bd y m
  obtain ⟨J, hJ⟩ : ∃ J, J = m + k := ⟨_, rfl⟩
  have hadd : (m : Int) + (k : Int) = (J : Int) := by omega
  have hJb : J ≤ 130000 := by omega
  have hJ1 : 1 ≤ J := by omega
  have hIb : I ≤ 300000 := by omega
  have hI12 : 12 ≤ I := by omega
  have k0 : decide ((k : Int) < -120000) = false := decide_eq_false (by omega)
  have k1 : decide (120000 < (k : Int)) = false := decide_eq_false (by omega)
  have HI := Lib.hid hI
  have HIJ : Hid (I = 12 * y + (J - 1)) := by show _ = _; omega
  clear hI hmi hd hJ
  go_wp2_with fail
  clear hadd
  go_loopg [6, 7] J (fun gh v6 v7 wr => ∃ a b : Nat, gh = b ∧ (1 ≤ a ∧ 1 ≤ b ∧ b ≤ 130000 ∧ a ≤ 30000) ∧ v6 = .int .i64 a ∧ v7 = .int .i64 b ∧ I = 12 * a + (b - 1) ∧ wr = w)
  case atStart => exact ⟨y, J, rfl, by omega, rfl, rfl, HIJ.out, rfl⟩
  case round =>
    obtain ⟨a, b, hg, hab, rfl, rfl, hi, rfl⟩ := hrel
    have HG := Lib.hid hg; have HII := Lib.hid hi
    clear hg hi
    obtain ⟨ha1, hb1, hb2, ha2⟩ := hab
    by_cases hlt : 12 < b
    · have hsub : IntKind.i64.wrap ((b : Int) - 12) = ((b - 12 : Nat) : Int) := by rw [IntWalk.i64_in _ (by omega)]; omega
      have ha3 : a + 1 ≤ 30000 := by have := HII.out; omega
      go_wp2_with fail
      go_roundg (b - 12)
      case measure => have := HG.out; omega
      case rel => exact ⟨a + 1, b - 12, rfl, by omega, by go_num, rfl, by have := HII.out; omega, rfl⟩
    · have HL := Lib.hid (rlast_any a b wr (by have := HII.out; omega) (by omega))
      have HE : Hid (I / 12 = a ∧ I % 12 + 1 = b) := by have := HII.out; show _ ∧ _; omega
      go_wp2_with fail
      refine wp_loop_rounds 1 ?_
      rw [rounds_succ]
      go_wp2_with fail
      refine HL.out.mono ?_; rintro e w' ⟨rfl, rfl⟩
      by_cases h99 : a ≤ 9999
      · rw [last_ok h99]
        have hb2 := ml_bd a b
        have HML : Hid (mlen I = ml a b) := by show _ = _; unfold mlen; rw [HE.out.1, HE.out.2]
        have HMS : Hid (Go.Proofs.Ytilcgpaefkapaaa.ms I = dby a + cumM a b) := by show _ = _; unfold Go.Proofs.Ytilcgpaefkapaaa.ms; rw [HE.out.1, HE.out.2]
        have HAS : Hid (addM (12 * y + (m - 1)) d k = some (Go.Proofs.Ytilcgpaefkapaaa.ms I + (min d (mlen I) - 1))) := by show _ = _; rw [addM_some (by rw [← HI.out, HE.out.1]; exact h99), ← HI.out]
        have hds := rdays_any a b (min d (ml a b)) wr (by omega) (by omega) (by omega)
        generalize ml a b = L at *
        have HR : Hid (monthsV (addD N k) = (((dby a + cumM a b + (min d L - 1) : Nat) : Int), 0)) := by show _ = _; rw [HA.out, HAS.out, HMS.out, HML.out]; rfl
        by_cases hdl : d ≤ L
        · rw [Nat.min_eq_left hdl] at hds HR
          have HDS := Lib.hid hds; clear hds
          go_wp2_with fail
          refine HDS.out.mono ?_; rintro e w' ⟨rfl, rfl⟩
          go_wp2_with fail
          go_ret2
          exact ⟨ret_pr (by rw [HR.out]; simp), rfl⟩
        · rw [Nat.min_eq_right (by omega)] at hds HR
          have HDS := Lib.hid hds; clear hds
          have hdl' : ¬ (d : Int) ≤ (L : Int) := by omega
          go_wp2_with fail
          refine HDS.out.mono ?_; rintro e w' ⟨rfl, rfl⟩
          go_wp2_with fail
          go_ret2
          exact ⟨ret_pr (by rw [HR.out]; simp), rfl⟩
      · have e : lastS a b = (0, 1) := if_neg h99
        have HAS : Hid (addM (12 * y + (m - 1)) d k = none) := by show _ = _; rw [addM_none (by rw [← HI.out, HE.out.1]; exact h99)]
        rw [e]
        go_wp2_with fail
        go_ret2
        exact ⟨by rw [HA.out, HAS.out]; rfl, rfl⟩
end Go.Proofs.Ytilcgpaefkapaaa
