/- The reference's calendar. -/
import Derived.Test.YtbjjgnaojoaoiaaGreatK6
import Derived.Test.YtbjjgnaojoaoiaaGreatK0
import Derived.Test.YtbjjgnaojoaoiaaGreatK5
namespace Go.Proofs.YtbjjgnaojoaoiaaGreat
open Go.RowKit Go
set_option linter.unusedVariables false
set_option linter.unusedSimpArgs false

set_option maxHeartbeats 3400000 in
set_option maxRecDepth 100000 in
theorem rlast_any (y m : Nat) (w : World) (hy : 1 ≤ y ∧ y ≤ 40000) (hm : 1 ≤ m ∧ m ≤ 12) : Calls Tryz.prog 204 #[.int .i64 y, .int .i64 m] w fun e w' => e = .returned (pr (lastS y m)) ∧ w = w' := by
  by_cases h99 : y ≤ 9999
  · have HL : Hid (lastS y m = (((ml y m : Nat) : Int), 0)) := if_pos h99
    by_cases h2 : m = 2
    · subst h2
      by_cases hl : leapY y = true
      · have H : Hid (ml y 2 = 29) := by show _ = _; simp [ml, hl]
        go_enter Tryz.func204, Tryz.ntmps204
        go_wp2_with fail
        refine (rlong_any y _ hy.2).mono ?_; rintro e w' ⟨rfl, rfl⟩
        rw [hl]; clear hl
        go_wp2_with fail
        go_ret2
        exact ⟨ret_pr (by rw [HL.out, H.out]; rfl), rfl⟩
      · have H : Hid (ml y 2 = 28) := by show _ = _; simp [ml, hl]
        go_enter Tryz.func204, Tryz.ntmps204
        go_wp2_with fail
        refine (rlong_any y _ hy.2).mono ?_; rintro e w' ⟨rfl, rfl⟩
        rw [Bool.eq_false_iff.2 hl]; clear hl
        go_wp2_with fail
        go_ret2
        exact ⟨ret_pr (by rw [HL.out, H.out]; rfl), rfl⟩
    · have h : m = 1 ∨ m = 3 ∨ m = 4 ∨ m = 5 ∨ m = 6 ∨ m = 7 ∨ m = 8 ∨ m = 9 ∨ m = 10 ∨ m = 11 ∨ m = 12 := by omega
      rcases h with rfl | rfl | rfl | rfl | rfl | rfl | rfl | rfl | rfl | rfl | rfl
      all_goals
        go_enter Tryz.func204, Tryz.ntmps204
        go_wp2_with fail
        go_ret2
        exact ⟨ret_pr (by rw [HL.out]; simp [ml]), rfl⟩
  · have HL : Hid (lastS y m = (0, 1)) := if_neg h99
    go_enter Tryz.func204, Tryz.ntmps204
    go_wp2_with fail
    go_ret2
    exact ⟨ret_pr HL.out, rfl⟩
theorem dby_one : dby 1 = 0 := by decide
theorem yl_bd (y : Nat) : 365 ≤ yl y ∧ yl y ≤ 366 := by unfold yl; split <;> omega
set_option maxHeartbeats 1600000 in
set_option maxRecDepth 100000 in
theorem rdays_any (y m d : Nat) (w : World) (hy : 1 ≤ y ∧ y ≤ 9999) (hm : 1 ≤ m ∧ m ≤ 12) (hd : 1 ≤ d ∧ d ≤ ml y m) :
    Calls Tryz.prog 205 #[.int .i64 y, .int .i64 m, .int .i64 d] w fun e w' => e = .returned (pr (((dby y + cumM y m + (d - 1) : Nat) : Int), 0)) ∧ w = w' := by
  have hmb := ml_bd y m
  obtain ⟨D, hD⟩ : ∃ D, D = d - 1 := ⟨_, rfl⟩
  have hsub : IntKind.i64.wrap ((d : Int) - 1) = (D : Int) := by rw [IntWalk.i64_in _ (by omega)]; omega
  have hup := dby_up y hy.2 hy.1
  have HDD := Lib.hid hD
  have hDb : D ≤ 31 := by omega
  obtain ⟨L, hL⟩ : ∃ L, ml y m = L := ⟨_, rfl⟩
  have HL := Lib.hid hL
  rw [hL] at hd hmb
  clear hD hL
  have g1 : decide ((d : Int) < 1) = false := decide_eq_false (by omega)
  have g2 : decide (L < d) = false := decide_eq_false (by omega)
  go_enter Tryz.func205, Tryz.ntmps205
  go_wp2_with fail
  refine (rlast_any y m _ ⟨hy.1, by omega⟩ hm).mono ?_; rintro e w' ⟨rfl, rfl⟩
  rw [last_ok hy.2, HL.out]
  go_wp2_with fail
  go_loopg [10, 11] (y - 1) (fun g v10 v11 wr => ∃ i : Nat, g = y - i ∧ (1 ≤ i ∧ i ≤ y) ∧ v11 = .int .i64 i ∧ v10 = .int .i64 ((D + dby i : Nat) : Int) ∧ wr = w)
  case atStart => exact ⟨1, rfl, by omega, rfl, by rw [dby_one]; rfl, rfl⟩
  case round =>
    obtain ⟨i, hgk, hi, rfl, rfl, rfl⟩ := hrel
    have HG := Lib.hid hgk; clear hgk hsub
    by_cases hlt : i < y
    · have H1 := Lib.hid (year_any i wr (by omega))
      have hb := yl_bd i
      have hdb := dby_up i (by omega) hi.1
      have HC := Lib.hid (dby_succ hi.1)
      go_wp2_with fail
      refine H1.out.mono ?_; rintro e w' ⟨rfl, rfl⟩
      generalize yl i = l at *
      generalize dby i = c at *
      go_wp2_with fail
      go_roundg (y - (i + 1))
      case measure => have := HG.out; omega
      case rel => exact ⟨i + 1, rfl, by omega, by go_num, by rw [HC.out]; go_num, rfl⟩
    · have hiy : i = y := by omega
      rw [hiy]
      clear hi hlt hiy HG
      go_wp2_with fail
      go_loopg [10, 12] (m - 1) (fun g v10 v12 wx => ∃ k : Nat, g = m - k ∧ (1 ≤ k ∧ k ≤ m) ∧ v12 = .int .i64 k ∧ v10 = .int .i64 ((D + dby y + cumM y k : Nat) : Int) ∧ wx = wr)
      case atStart => exact ⟨1, rfl, by omega, rfl, by rw [cumM_one]; rfl, rfl⟩
      case round =>
        obtain ⟨k, hgk, hk, rfl, rfl, rfl⟩ := hrel
        have HG := Lib.hid hgk; clear hgk
        by_cases hlt : k < m
        · have H1 := Lib.hid (rlast_any y k wr ⟨hy.1, by omega⟩ (by omega))
          have hc := cumM_up y k; have hb := ml_bd y k
          have HC := Lib.hid (cumM_succ y (m := k) (by omega))
          go_wp2_with fail
          refine H1.out.mono ?_; rintro e w' ⟨rfl, rfl⟩
          rw [last_ok hy.2]
          generalize ml y k = l at *
          generalize cumM y k = c at *
          go_wp2_with fail
          go_roundg (m - (k + 1))
          case measure => have := HG.out; omega
          case rel => exact ⟨k + 1, rfl, by omega, by go_num, by rw [HC.out]; go_num, rfl⟩
        · have hkN : k = m := by omega
          rw [hkN]
          go_wp2_with fail
          go_ret2
          refine ⟨ret_pr (Prod.ext ?_ rfl), rfl⟩
          have := HDD.out
          simp
          omega

set_option maxHeartbeats 1600000 in
set_option maxRecDepth 100000 in
theorem rdate_any (N : Nat) (w : World) (hN : N ≤ 3652058) :
    Calls Tryz.prog 203 #[.int .i64 N] w fun e w' => (∃ y m d : Nat, IsD N y m d ∧ y ≤ 9999 ∧ e = .returned (pr4 y m d 0)) ∧ w = w' := by
  have h0' : ¬ (N : Int) < 0 := by omega
  have h1' : ¬ 3652058 < (N : Int) := by omega
  have HNN := Lib.hid hN
  go_enter Tryz.func203, Tryz.ntmps203
  go_wp2_with fail
  clear h0' h1'
  go_loopg [0, 6] N (fun gh v0 v6 wr => ∃ n y : Nat, gh = n ∧ 1 ≤ y ∧ v0 = .int .i64 n ∧ v6 = .int .i64 y ∧ N = dby y + n ∧ wr = w)
  case atStart => exact ⟨N, 1, rfl, Nat.le_refl _, rfl, rfl, by rw [dby_one]; omega, rfl⟩
  case round =>
    obtain ⟨n, y, hg, hy1, rfl, rfl, hn, rfl⟩ := hrel
    have hy2 : y ≤ 9999 := dby_inj (by omega)
    have HG := Lib.hid hg; have HN1 := Lib.hid hn
    have hnb : n ≤ 3652058 := by omega
    have H1 := Lib.hid (year_any y wr (by omega))
    have hb := yl_bd y
    have HC := Lib.hid (dby_succ hy1)
    have HCY := Lib.hid (cumM_year y)
    clear hg hn hN
    obtain ⟨l, hl⟩ : ∃ l, yl y = l := ⟨_, rfl⟩
    have HLY := Lib.hid hl
    rw [hl] at H1 hb
    clear hl
    by_cases hln : l ≤ n
    · have hsub : IntKind.i64.wrap ((n : Int) - l) = ((n - l : Nat) : Int) := by rw [IntWalk.i64_in _ (by omega)]; omega
      go_wp2_with fail
      refine H1.out.mono ?_; rintro e w' ⟨rfl, rfl⟩
      go_wp2_with fail
      refine H1.out.mono ?_; rintro e w' ⟨rfl, rfl⟩
      go_wp2_with fail
      go_roundg (n - l)
      case measure => have := HG.out; omega
      case rel => exact ⟨n - l, y + 1, rfl, by omega, rfl, by go_num, by have := HN1.out; have := HC.out; have := HLY.out; omega, rfl⟩
    · go_wp2_with fail
      refine H1.out.mono ?_; rintro e w' ⟨rfl, rfl⟩
      have HLT : Hid (n < l) := by show n < l; omega
      go_wp2_with fail
      clear hln
      go_loopg [0, 7, 8, 9] 11 (fun gh v0 v7 v8 v9 wx => ∃ m r : Nat, gh = 12 - m ∧ (1 ≤ m ∧ m ≤ 12) ∧ v7 = .int .i64 m ∧ v0 = .int .i64 r ∧ n = cumM y m + r ∧ wx = wr)
      case atStart => exact ⟨1, n, rfl, by omega, rfl, rfl, by rw [cumM_one]; omega, rfl⟩
      case round =>
        obtain ⟨m, r, hgm, hm, rfl, rfl, hrn, rfl⟩ := hrel
        have HGM := Lib.hid hgm; have HRN := Lib.hid hrn
        have hrb : r ≤ 366 := by have := HLT.out; omega
        clear hgm hrn
        have HL := Lib.hid (rlast_any y m wr ⟨hy1, by omega⟩ hm)
        go_wp2_with fail
        refine HL.out.mono ?_; rintro e w' ⟨rfl, rfl⟩
        rw [last_ok hy2]
        have hmb := ml_bd y m
        have HCS := Lib.hid (cumM_succ y hm.1)
        obtain ⟨k, hk⟩ : ∃ k, ml y m = k := ⟨_, rfl⟩
        have HML := Lib.hid hk
        rw [hk] at hmb ⊢
        clear hk
        by_cases hlr : r < k
        · go_wp2_with fail
          refine bodyPost_ret (results_tmp4 rfl _ _ _) rfl ?_
          exact ⟨⟨y, m, r + 1, ⟨hy1, hm, ⟨by omega, by have := HML.out; omega⟩, by have := HN1.out; have := HRN.out; omega⟩, hy2, by rfl⟩, rfl⟩
        · have hsub : IntKind.i64.wrap ((r : Int) - k) = ((r - k : Nat) : Int) := by rw [IntWalk.i64_in _ (by omega)]; omega
          have hm12 : m < 12 := by
            rcases Nat.lt_or_ge m 12 with h | h
            · exact h
            · have e : m = 12 := by omega
              subst e
              have h1 : cumM y 13 = cumM y 12 + ml y 12 := cumM_succ y (m := 12) (by omega)
              have := HCY.out; have := HLT.out; have := HRN.out; have := HML.out; have := HLY.out; omega
          go_wp2_with fail
          go_roundg (12 - (m + 1))
          case measure => have := HGM.out; omega
          case rel => exact ⟨m + 1, r - k, rfl, by omega, by go_num, rfl, by have := HRN.out; have := HCS.out; have := HML.out; omega, rfl⟩
set_option maxHeartbeats 1600000 in
set_option maxRecDepth 100000 in
theorem rmonths_any (N k : Nat) (w : World) (hN : N ≤ 3652058) (hk : k ≤ 120000) :
    Calls Tryz.prog 191 #[.int .i64 N, .int .i64 k] w fun e w' => e = .returned (pr (monthsV (addD N k))) ∧ w = w' := by
  go_enter Tryz.func191, Tryz.ntmps191
  go_wp2_with fail
  refine (rdate_any N w hN).mono ?_; rintro e w1 ⟨⟨y, m, d, hd, hy, rfl⟩, rfl⟩
  have hmi := mi_eq hd
  have HA : Hid (addD N k = addM (12 * y + (m - 1)) d k) := by show _ = _; unfold addD; rw [hmi]
  have y1 := hd.1; have hm1 := hd.2.1.1; have hm2 := hd.2.1.2; have hd1 := hd.2.2.1.1; have hd2 := hd.2.2.1.2
  obtain ⟨I, hI⟩ : ∃ I, I = 12 * y + (m - 1) + k := ⟨_, rfl⟩
  have hb := ml_bd y m
  obtain ⟨J, hJ⟩ : ∃ J, J = m + k := ⟨_, rfl⟩
  have hadd : (m : Int) + (k : Int) = (J : Int) := by omega
  have hJb : J ≤ 130000 := by omega
  have hJ1 : 1 ≤ J := by omega
  have hIb : I ≤ 300000 := by omega
  have hI12 : 12 ≤ I := by omega
  have k0 : decide ((k : Int) < -120000) = false := decide_eq_false (by omega)
  have k1 : decide (120000 < (k : Int)) = false := decide_eq_false (by omega)
  have HI := Lib.hid hI
  have HIJ : Hid (I = 12 * y + (J - 1)) := by show _ = _; omega
  clear hI hmi hd hJ
  go_wp2_with fail
  clear hadd
  go_loopg [6, 7] J (fun gh v6 v7 wr => ∃ a b : Nat, gh = b ∧ (1 ≤ a ∧ 1 ≤ b ∧ b ≤ 130000 ∧ a ≤ 30000) ∧ v6 = .int .i64 a ∧ v7 = .int .i64 b ∧ I = 12 * a + (b - 1) ∧ wr = w)
  case atStart => exact ⟨y, J, rfl, by omega, rfl, rfl, HIJ.out, rfl⟩
  case round =>
    obtain ⟨a, b, hg, hab, rfl, rfl, hi, rfl⟩ := hrel
    have HG := Lib.hid hg; have HII := Lib.hid hi
    clear hg hi
    obtain ⟨ha1, hb1, hb2, ha2⟩ := hab
    by_cases hlt : 12 < b
    · have hsub : IntKind.i64.wrap ((b : Int) - 12) = ((b - 12 : Nat) : Int) := by rw [IntWalk.i64_in _ (by omega)]; omega
      have ha3 : a + 1 ≤ 30000 := by have := HII.out; omega
      go_wp2_with fail
      go_roundg (b - 12)
      case measure => have := HG.out; omega
      case rel => exact ⟨a + 1, b - 12, rfl, by omega, by go_num, rfl, by have := HII.out; omega, rfl⟩
    · have HL := Lib.hid (rlast_any a b wr (by have := HII.out; omega) (by omega))
      have HE : Hid (I / 12 = a ∧ I % 12 + 1 = b) := by have := HII.out; show _ ∧ _; omega
      go_wp2_with fail
      refine wp_loop_rounds 1 ?_
      rw [rounds_succ]
      go_wp2_with fail
      refine HL.out.mono ?_; rintro e w' ⟨rfl, rfl⟩
      by_cases h99 : a ≤ 9999
      · rw [last_ok h99]
        have hb2 := ml_bd a b
        have HML : Hid (mlen I = ml a b) := by show _ = _; unfold mlen; rw [HE.out.1, HE.out.2]
        have HMS : Hid (Go.Proofs.YtbjjgnaojoaoiaaGreat.ms I = dby a + cumM a b) := by show _ = _; unfold Go.Proofs.YtbjjgnaojoaoiaaGreat.ms; rw [HE.out.1, HE.out.2]
        have HAS : Hid (addM (12 * y + (m - 1)) d k = some (Go.Proofs.YtbjjgnaojoaoiaaGreat.ms I + (min d (mlen I) - 1))) := by show _ = _; rw [addM_some (by rw [← HI.out, HE.out.1]; exact h99), ← HI.out]
        have hds := rdays_any a b (min d (ml a b)) wr (by omega) (by omega) (by omega)
        generalize ml a b = L at *
        have HR : Hid (monthsV (addD N k) = (((dby a + cumM a b + (min d L - 1) : Nat) : Int), 0)) := by show _ = _; rw [HA.out, HAS.out, HMS.out, HML.out]; rfl
        by_cases hdl : d ≤ L
        · rw [Nat.min_eq_left hdl] at hds HR
          have HDS := Lib.hid hds; clear hds
          go_wp2_with fail
          refine HDS.out.mono ?_; rintro e w' ⟨rfl, rfl⟩
          go_wp2_with fail
          go_ret2
          exact ⟨ret_pr (by rw [HR.out]; simp), rfl⟩
        · rw [Nat.min_eq_right (by omega)] at hds HR
          have HDS := Lib.hid hds; clear hds
          have hdl' : ¬ (d : Int) ≤ (L : Int) := by omega
          go_wp2_with fail
          refine HDS.out.mono ?_; rintro e w' ⟨rfl, rfl⟩
          go_wp2_with fail
          go_ret2
          exact ⟨ret_pr (by rw [HR.out]; simp), rfl⟩
      · have e : lastS a b = (0, 1) := if_neg h99
        have HAS : Hid (addM (12 * y + (m - 1)) d k = none) := by show _ = _; rw [addM_none (by rw [← HI.out, HE.out.1]; exact h99)]
        rw [e]
        go_wp2_with fail
        go_ret2
        exact ⟨by rw [HA.out, HAS.out]; rfl, rfl⟩
end Go.Proofs.YtbjjgnaojoaoiaaGreat
/- A tax by brackets, in plain words: the sum of all pieces; the same from the last bracket down, in units and parts. -/
namespace Go.Proofs.YtbjjgnaojoaoiaaGreat
set_option linter.unusedVariables false
set_option linter.unusedSimpArgs false

/-- A bracket. -/
structure Br where
  frm : Int
  bp : Int
def fr (bs : List Br) (i : Nat) : Int := (bs[i]?.getD ⟨0, 0⟩).frm
def bpA (bs : List Br) (i : Nat) : Int := (bs[i]?.getD ⟨0, 0⟩).bp
theorem fr_at (bs : List Br) (i : Nat) (h : i < bs.length) : fr bs i = bs[i].frm := by simp [fr, h]
theorem bpA_at (bs : List Br) (i : Nat) (h : i < bs.length) : bpA bs i = bs[i].bp := by simp [bpA, h]
def mny (a : Int) : Bool := decide (0 ≤ a ∧ a ≤ 1125899906842624)
theorem mny_yes {a : Int} (h : mny a = true) : 0 ≤ a ∧ a ≤ 1125899906842624 := by simpa [mny] using h
theorem mny_no {a : Int} (h : ¬ mny a = true) : a < 0 ∨ 1125899906842624 < a := by
  have : ¬ (0 ≤ a ∧ a ≤ 1125899906842624) := by simpa [mny] using h
  omega
/-- The bracket i may be. -/
def okB (bs : List Br) (i : Nat) : Prop := (0 ≤ fr bs i ∧ fr bs i ≤ 1125899906842624) ∧ (0 ≤ bpA bs i ∧ bpA bs i ≤ 10000) ∧ (0 < i → fr bs (i - 1) < fr bs i)
/-- What is left ahead of bracket k, from above. -/
def lft (bs : List Br) (P : Int) (k : Nat) : Int := if k < bs.length then min P (fr bs k) else P
def piece (bs : List Br) (P : Int) (i : Nat) : Int := max (lft bs P (i + 1) - fr bs i) 0 * bpA bs i
def up_ (bs : List Br) (P : Int) : Nat → Int
  | 0 => 0
  | k + 1 => up_ bs P k + piece bs P k
section
variable {bs : List Br} {P : Int}
theorem piece_nn {i : Nat} (h : okB bs i) : 0 ≤ piece bs P i := Int.mul_nonneg (by omega) h.2.1.1
theorem up_nn (h : ∀ i, i < bs.length → okB bs i) : ∀ k, k ≤ bs.length → 0 ≤ up_ bs P k
  | 0, _ => Int.le_refl _
  | k + 1, hk => by have := up_nn h k (by omega); have := piece_nn (P := P) (h k (by omega)); simp only [up_]; omega
theorem up_mono (h : ∀ i, i < bs.length → okB bs i) (k : Nat) : ∀ n, k + n ≤ bs.length → up_ bs P k ≤ up_ bs P (k + n)
  | 0, _ => Int.le_refl _
  | n + 1, hn => by have := up_mono h k n (by omega); have := piece_nn (P := P) (h (k + n) (by omega)); rw [← Nat.add_assoc]; simp only [up_]; omega
theorem up_le (h : ∀ i, i < bs.length → okB bs i) (h0 : fr bs 0 = 0) (hP : 0 ≤ P) : ∀ k, k ≤ bs.length → up_ bs P k ≤ 10000 * lft bs P k
  | 0, _ => by
    simp only [up_, lft]; split
    · rw [h0]; omega
    · omega
  | k + 1, hk => by
    have ih := up_le h h0 hP k (by omega)
    obtain ⟨⟨a1, a2⟩, ⟨b1, b2⟩, c⟩ := h k (by omega)
    have hk' : k < bs.length := by omega
    have e : lft bs P k = min P (fr bs k) := by unfold lft; rw [if_pos hk']
    rw [e] at ih
    simp only [up_, piece]
    by_cases hl : lft bs P (k + 1) ≤ fr bs k
    · rw [show max (lft bs P (k + 1) - fr bs k) 0 = 0 by omega, Int.zero_mul]
      have : min P (fr bs k) ≤ lft bs P (k + 1) := by
        unfold lft; split
        · rename_i h2
          have := (h (k + 1) h2).2.2 (by omega)
          rw [Nat.add_sub_cancel] at this
          omega
        · omega
      omega
    · have h2 : lft bs P (k + 1) ≤ P := by unfold lft; split <;> omega
      rw [show max (lft bs P (k + 1) - fr bs k) 0 = lft bs P (k + 1) - fr bs k by omega]
      have := Int.mul_le_mul_of_nonneg_left b2 (show 0 ≤ lft bs P (k + 1) - fr bs k by omega)
      omega
/-- The program's state with k brackets still to come. -/
structure Dn (bs : List Br) (P : Int) (k : Nat) (left units parts : Int) : Prop where
  lf : left = lft bs P k
  sm : 10000 * units + parts = up_ bs P bs.length - up_ bs P k
  un : 0 ≤ units
  pn : 0 ≤ parts
  pm : parts ≤ ((bs.length : Int) - k) * 99990000
theorem Dn.start : Dn bs P bs.length P 0 0 := ⟨by unfold lft; rw [if_neg (Nat.lt_irrefl _)], by omega, by omega, by omega, by omega⟩
theorem Dn.skip {k : Nat} {left units parts : Int} (h : ∀ i, i < bs.length → okB bs i) (hk : k < bs.length) (d : Dn bs P (k + 1) left units parts) (hl : left ≤ fr bs k) : Dn bs P k left units parts := by
  have hp : piece bs P k = 0 := by unfold piece; rw [← d.lf, show max (left - fr bs k) 0 = 0 by omega, Int.zero_mul]
  refine ⟨?_, ?_, d.un, d.pn, ?_⟩
  · have e := d.lf
    unfold lft at *
    rw [if_pos hk]
    split at e
    · rename_i h2
      have := (h (k + 1) h2).2.2 (by omega)
      rw [Nat.add_sub_cancel] at this
      omega
    · omega
  · have := d.sm; simp only [up_] at this; omega
  · have := d.pm; omega
theorem Dn.step {k : Nat} {left units parts : Int} (h : ∀ i, i < bs.length → okB bs i) (hk : k < bs.length) (d : Dn bs P (k + 1) left units parts) (hl : ¬ left ≤ fr bs k) :
    Dn bs P k (fr bs k) (units + (left - fr bs k) / 10000 * bpA bs k) (parts + (left - fr bs k) % 10000 * bpA bs k) := by
  obtain ⟨⟨a1, a2⟩, ⟨b1, b2⟩, c⟩ := h k hk
  have hp : piece bs P k = (left - fr bs k) * bpA bs k := by unfold piece; rw [← d.lf, show max (left - fr bs k) 0 = left - fr bs k by omega]
  have m1 := Int.emod_nonneg (left - fr bs k) (show (10000 : Int) ≠ 0 by omega)
  have m2 := Int.emod_lt_of_pos (left - fr bs k) (show (0 : Int) < 10000 by omega)
  have m3 := Int.mul_nonneg m1 b1
  have m4 : (left - fr bs k) % 10000 * bpA bs k ≤ 9999 * 10000 := Int.le_trans (Int.mul_le_mul_of_nonneg_right (show (left - fr bs k) % 10000 ≤ 9999 by omega) b1) (Int.mul_le_mul_of_nonneg_left b2 (by omega))
  have m5 : 0 ≤ (left - fr bs k) / 10000 * bpA bs k := Int.mul_nonneg (Int.ediv_nonneg (by omega) (by omega)) b1
  refine ⟨?_, ?_, by have := d.un; omega, by have := d.pn; omega, by have := d.pm; omega⟩
  · have e : left ≤ P := by rw [d.lf]; unfold lft; split <;> omega
    unfold lft; rw [if_pos hk]; omega
  · have := d.sm
    simp only [up_] at this
    rw [hp] at this
    have e := Int.mul_ediv_add_emod (left - fr bs k) 10000
    have e2 : 10000 * ((left - fr bs k) / 10000 * bpA bs k) + (left - fr bs k) % 10000 * bpA bs k = (left - fr bs k) * bpA bs k := by
      conv => rhs; rw [← e]
      rw [Int.add_mul, Int.mul_assoc]
    omega
/-- Bounds on the way. -/
theorem Dn.bound {k : Nat} {left units parts : Int} (h : ∀ i, i < bs.length → okB bs i) (h0 : fr bs 0 = 0) (hP : 0 ≤ P ∧ P ≤ 1125899906842624) (hn : bs.length ≤ 10) (hk : k ≤ bs.length) (d : Dn bs P k left units parts) :
    (left ≤ P ∧ 0 ≤ left) ∧ (0 ≤ units ∧ units ≤ 1125899906842624) ∧ (0 ≤ parts ∧ parts ≤ 999900000) := by
  have u1 := up_le h h0 hP.1 bs.length (Nat.le_refl _)
  have e : lft bs P bs.length = P := by unfold lft; rw [if_neg (Nat.lt_irrefl _)]
  rw [e] at u1
  have u2 := up_nn (P := P) h k hk
  have := d.sm; have a := d.un; have b := d.pn; have := d.pm
  refine ⟨?_, ⟨a, by omega⟩, ⟨b, by omega⟩⟩
  have := d.lf
  unfold lft at this
  split at this
  · have := (h k (by assumption)).1; omega
  · omega
theorem Dn.done {left units parts : Int} (d : Dn bs P 0 left units parts) : units + parts / 10000 = up_ bs P bs.length / 10000 := by
  have := d.sm; simp only [up_] at this; omega
end
/-- A schedule. -/
structure Sch where
  bs : List Br
  ded : Int
  cred : Int
  lbp : Int
  most : Int
  least : Int
/-- The schedule may be. -/
def OkS (s : Sch) : Prop := (1 ≤ s.bs.length ∧ s.bs.length ≤ 10) ∧ (0 ≤ s.lbp ∧ s.lbp ≤ 10000) ∧ (0 ≤ s.most ∧ s.most ≤ 60) ∧ fr s.bs 0 = 0 ∧ (∀ i, i < s.bs.length → okB s.bs i) ∧ mny s.ded = true ∧ mny s.cred = true ∧ mny s.least = true
noncomputable def okS (s : Sch) : Bool := @decide (OkS s) (Classical.propDecidable _)
theorem okS_yes {s : Sch} (h : okS s = true) : OkS s := @of_decide_eq_true _ (Classical.propDecidable _) h
theorem okS_no {s : Sch} (h : ¬ OkS s) : okS s = false := @decide_eq_false _ (Classical.propDecidable _) h
theorem okS_is {s : Sch} (h : OkS s) : okS s = true := @decide_eq_true _ (Classical.propDecidable _) h
def partS (s : Sch) (x : Int) : Int := max (x - s.ded) 0
def taxV (s : Sch) (x : Int) : Int := max (up_ s.bs (partS s x) s.bs.length / 10000 - s.cred) 0
noncomputable def taxS (s : Sch) (x : Int) : Int × Int := if okS s && mny x then (taxV s x, 0) else (0, 1)
theorem taxV_bd {s : Sch} {x : Int} (h : OkS s) (hx : mny x = true) : 0 ≤ taxV s x ∧ taxV s x ≤ 1125899906842624 := by
  obtain ⟨_, _, _, h0, hb, hd, hc, _⟩ := h
  have d := mny_yes hd; have c := mny_yes hc; have x' := mny_yes hx
  have u1 := up_le (P := partS s x) hb h0 (by unfold partS; omega) s.bs.length (Nat.le_refl _)
  have e : lft s.bs (partS s x) s.bs.length = partS s x := by unfold lft; rw [if_neg (Nat.lt_irrefl _)]
  rw [e] at u1
  have : partS s x ≤ 1125899906842624 := by unfold partS; omega
  unfold taxV; omega
end Go.Proofs.YtbjjgnaojoaoiaaGreat
/- What comes of a return, in plain words. -/
namespace Go.Proofs.YtbjjgnaojoaoiaaGreat
set_option linter.unusedVariables false
set_option linter.unusedSimpArgs false

def dayB (n : Int) : Bool := decide (0 ≤ n ∧ n ≤ 3652058)
theorem dayB_yes {n : Int} (h : dayB n = true) : 0 ≤ n ∧ n ≤ 3652058 := by simpa [dayB] using h
theorem dayB_no {n : Int} (h : ¬ dayB n = true) : n < 0 ∨ 3652058 < n := by
  have : ¬ (0 ≤ n ∧ n ≤ 3652058) := by simpa [dayB] using h
  omega
/-- A return. -/
structure Ret where
  per : Int
  due : Int
  filed : Int
  inc : Int
  wh : Int
def retB (r : Ret) : Bool := decide (1 ≤ r.per ∧ r.per ≤ 99999) && dayB r.due && dayB r.filed && mny r.inc && mny r.wh
theorem retB_yes {r : Ret} (h : retB r = true) : (1 ≤ r.per ∧ r.per ≤ 99999) ∧ dayB r.due = true ∧ dayB r.filed = true ∧ mny r.inc = true ∧ mny r.wh = true := by
  simp only [retB, Bool.and_eq_true, decide_eq_true_eq] at h
  exact ⟨h.1.1.1.1, h.1.1.1.2, h.1.1.2, h.1.2, h.2⟩
/-- A bill. -/
structure Bl where
  tax : Int
  prin : Int
  pen : Int
  exc : Int
def Bl.zero : Bl := ⟨0, 0, 0, 0⟩
def Bl.sub (b a : Bl) : Bl := ⟨b.tax - a.tax, b.prin - a.prin, b.pen - a.pen, b.exc - a.exc⟩
noncomputable def lateI (r : Ret) : Int := (lateD r.due.toNat r.filed.toNat : Nat)
def penV (s : Sch) (p l : Int) : Int := if 0 < p ∧ 0 < l then min (max (p * (s.lbp * min l s.most) / 10000) s.least) p else 0
def prinV (s : Sch) (r : Ret) : Int := max (taxV s r.inc - r.wh) 0
noncomputable def billV (s : Sch) (r : Ret) : Bl := ⟨taxV s r.inc, prinV s r, penV s (prinV s r) (lateI r), max (r.wh - taxV s r.inc) 0⟩
noncomputable def billS (s : Sch) (r : Ret) : Bl × Int := if okS s && retB r then (billV s r, 0) else (Bl.zero, 1)
theorem billS_yes {s : Sch} {r : Ret} (h : OkS s) (hr : retB r = true) : billS s r = (billV s r, 0) := by unfold billS; rw [okS_is h, hr]; rfl
theorem billS_no1 {s : Sch} {r : Ret} (h : ¬ OkS s) : billS s r = (Bl.zero, 1) := by unfold billS; rw [okS_no h]; rfl
theorem billS_no2 {s : Sch} {r : Ret} (h : ¬ retB r = true) : billS s r = (Bl.zero, 1) := by unfold billS; rw [Bool.eq_false_iff.2 h, Bool.and_false]; rfl
/-- Bounds of a rate for some months. -/
theorem rate_bd {s : Sch} (h : OkS s) {l : Int} (hl : 0 ≤ l) : 0 ≤ s.lbp * min l s.most ∧ s.lbp * min l s.most ≤ 600000 := by
  obtain ⟨_, ⟨b1, b2⟩, ⟨c1, c2⟩, _⟩ := h
  have h1 : 0 ≤ min l s.most := by omega
  have h2 : min l s.most ≤ 60 := by omega
  refine ⟨Int.mul_nonneg b1 h1, ?_⟩
  exact Int.le_trans (Int.mul_le_mul_of_nonneg_right b2 h1) (Int.mul_le_mul_of_nonneg_left h2 (by omega))
theorem prin_bd {s : Sch} {r : Ret} (h : OkS s) (hr : retB r = true) : 0 ≤ prinV s r ∧ prinV s r ≤ 1125899906842624 := by
  obtain ⟨_, _, _, hi, hw⟩ := retB_yes hr
  have := taxV_bd h hi; have := mny_yes hw
  unfold prinV; omega
theorem pen_prod {s : Sch} (h : OkS s) {p l : Int} (hp : 0 ≤ p ∧ p ≤ 1125899906842624) (hl : 0 ≤ l) :
    0 ≤ p * (s.lbp * min l s.most) ∧ p * (s.lbp * min l s.most) ≤ 675539944105574400000 := by
  have hb := rate_bd h hl
  refine ⟨Int.mul_nonneg hp.1 hb.1, ?_⟩
  exact Int.le_trans (Int.mul_le_mul_of_nonneg_right hp.2 hb.1) (Int.le_trans (Int.mul_le_mul_of_nonneg_left hb.2 (by omega)) (by omega))
theorem pen_bd {s : Sch} (h : OkS s) {p l : Int} (hp : 0 ≤ p ∧ p ≤ 1125899906842624) (hl : 0 ≤ l) : 0 ≤ penV s p l ∧ penV s p l ≤ p := by
  have h1 := pen_prod h hp hl
  have h2 := mny_yes h.2.2.2.2.2.2.2
  have h3 : 0 ≤ p * (s.lbp * min l s.most) / 10000 := Int.ediv_nonneg h1.1 (by omega)
  unfold penV
  split <;> omega
theorem lateI_nn (r : Ret) : 0 ≤ lateI r := by unfold lateI; omega
theorem bill_bd {s : Sch} {r : Ret} (h : OkS s) (hr : retB r = true) : (0 ≤ (billV s r).tax ∧ (billV s r).tax ≤ 1125899906842624) ∧ (0 ≤ (billV s r).prin ∧ (billV s r).prin ≤ 1125899906842624) ∧
    (0 ≤ (billV s r).pen ∧ (billV s r).pen ≤ (billV s r).prin) ∧ (0 ≤ (billV s r).exc ∧ (billV s r).exc ≤ 1125899906842624) ∧ ((billV s r).prin = 0 ∨ (billV s r).exc = 0) ∧ (billV s r).tax = (billV s r).prin + r.wh - (billV s r).exc := by
  obtain ⟨_, _, _, hi, hw⟩ := retB_yes hr
  have t := taxV_bd h hi; have w := mny_yes hw
  have p := prin_bd h hr
  refine ⟨t, p, pen_bd h p (lateI_nn r), ⟨?_, ?_⟩, ?_, ?_⟩ <;> simp only [billV, prinV] <;> omega
/-- A penalty is no less where it is later. -/
theorem pen_mono {s : Sch} (h : OkS s) {p l l' : Int} (hp : 0 ≤ p ∧ p ≤ 1125899906842624) (hl : 0 ≤ l) (hll : l ≤ l') : penV s p l ≤ penV s p l' := by
  have h1 := pen_bd h hp (show 0 ≤ l' by omega)
  unfold penV at *
  by_cases hc : 0 < p ∧ 0 < l
  · rw [if_pos hc]
    rw [if_pos ⟨hc.1, by omega⟩] at h1 ⊢
    have h2 : s.lbp * min l s.most ≤ s.lbp * min l' s.most := Int.mul_le_mul_of_nonneg_left (by omega) h.2.1.1
    have h3 : p * (s.lbp * min l s.most) ≤ p * (s.lbp * min l' s.most) := Int.mul_le_mul_of_nonneg_left h2 hp.1
    have h4 := Int.ediv_le_ediv (show (0 : Int) < 10000 by omega) h3
    omega
  · rw [if_neg hc]; exact h1.1
theorem late_mono {r r' : Ret} (hd : r'.due = r.due) (hr : retB r = true) (hr' : retB r' = true) (hf : r.filed ≤ r'.filed) : lateI r ≤ lateI r' := by
  obtain ⟨_, d1, f1, _, _⟩ := retB_yes hr
  obtain ⟨_, _, f2, _, _⟩ := retB_yes hr'
  have := dayB_yes d1; have := dayB_yes f1; have := dayB_yes f2
  unfold lateI
  rw [hd]
  have := lateD_mono (due := r.due.toNat) (a := r.filed.toNat) (b := r'.filed.toNat) (by omega) (by omega) (by omega) (by omega)
  omega
theorem late_none {r : Ret} (h : r.filed ≤ r.due) : lateI r = 0 := by unfold lateI lateD; rw [if_pos (by omega)]; rfl
/-- What an amended return adds. -/
noncomputable def changeS (s : Sch) (a b : Ret) : Bl × Int :=
  if okS s && retB a && retB b then (if a.per ≠ b.per ∨ b.filed < a.filed then (Bl.zero, 10) else ((billV s { b with due := a.due, filed := a.filed }).sub (billV s a), 0)) else (Bl.zero, 1)
theorem retB_moved {a b : Ret} (ha : retB a = true) (hb : retB b = true) : retB { b with due := a.due, filed := a.filed } = true := by
  obtain ⟨p1, d1, f1, _, _⟩ := retB_yes ha
  obtain ⟨p2, _, _, i2, w2⟩ := retB_yes hb
  simp only [retB, d1, f1, i2, w2, Bool.and_true, decide_eq_true_eq]
  exact p2
end Go.Proofs.YtbjjgnaojoaoiaaGreat
/- assess: day, Months, late, right; the reference's. -/
namespace Go.Proofs.YtbjjgnaojoaoiaaGreat
open Go.RowKit Go
set_option linter.unusedVariables false
set_option linter.unusedSimpArgs false

theorem day_any (A : Option Addr) (zs : List Int) (c : Nat) (w : World) (hr : Rd w w.heap.size 1 A zs.length (ints zs)) (hm : zs.length ≤ maxLen) :
    Calls Tryz.prog 173 #[.slice A zs.length c] w fun e w' => e = .returned (.bool (zs.all dayB)) ∧ w = w' := by
  unfold maxLen at hm
  go_enter Tryz.func173, Tryz.ntmps173
  go_wp2
  go_loop [7] (fun i => ∃ k : Nat, k ≤ zs.length ∧ i = .int .i64 k ∧ (zs.take k).all dayB = true) (fun i => zs.length - (intOf i).toNat)
  case atStart => exact ⟨0, Nat.zero_le _, rfl, rfl⟩
  case round =>
    obtain ⟨k, hk, rfl, hall⟩ := hrel
    have HA := Lib.hid hall; clear hall
    by_cases hlt : k < zs.length
    · obtain ⟨b, off, rfl, hb, hc⟩ := hr.2 (by omega)
      have hcell := (hc k (by omega)).trans (ints_at zs k hlt)
      clear hc
      by_cases ha : dayB zs[k] = true
      · have hb := dayB_yes ha
        have HX := Lib.hid ha; clear ha
        go_wp2
        exact ⟨⟨k + 1, by omega, by go_num, by rw [all_snoc _ _ _ hlt, HA.out, HX.out]; rfl⟩, by simp [intOf]; omega⟩
      · have hb := dayB_no ha
        have HX := Lib.hid (all_no dayB zs k hlt ha); clear ha
        go_wp2
        all_goals (go_ret; exact ⟨ret_bool HX.out.symm, rfl⟩)
    · go_wp2
      go_ret
      exact ⟨ret_bool (by rw [← HA.out, List.take_of_length_le (by omega)]), rfl⟩
theorem day2 (a b : Int) (w : World) : Calls Tryz.prog 173 #[.slice (some ⟨w.heap.size, 0, none⟩) 2 2] (w.alloc (.cells #[.int .i64 a, .int .i64 b] 3)) fun e w' => e = .returned (.bool (dayB a && dayB b)) ∧ w.alloc (.cells #[.int .i64 a, .int .i64 b] 3) = w' :=
  (day_any (some ⟨w.heap.size, 0, none⟩) [a, b] 2 _ (Rd.fresh w #[.int .i64 a, .int .i64 b] 3 2 1 rfl) (by simp [maxLen])).mono fun _ _ ⟨h, g⟩ => ⟨by rw [h]; simp, g⟩

noncomputable def lateS (due filed : Int) : Int × Int := if dayB due && dayB filed then (((lateD due.toNat filed.toNat : Nat) : Int), 0) else (0, 1)
theorem lateD_bd {D F : Nat} (hD : D ≤ 3652058) (hF : F ≤ 3652058) : lateD D F ≤ 120000 := by
  obtain ⟨y, m, d, g, hy⟩ := day_ex hD
  obtain ⟨y1, m1, d1, g1, hy1⟩ := day_ex hF
  unfold lateD
  rw [mi_eq g, mi_eq g1]
  have := g.2.1; have := g1.2.1; have := g.1
  unfold lateM
  split
  · omega
  · split <;> simp only <;> omega
set_option maxHeartbeats 1600000 in
set_option maxRecDepth 100000 in
theorem amonths_any (due filed : Int) (w : World) : Calls Tryz.prog 140 #[.int .i64 due, .int .i64 filed] w fun e w' => e = .returned (pr (lateS due filed)) ∧ Below w.heap.size w w' := by
  by_cases hdf : (dayB due && dayB filed) = true
  · obtain ⟨h1, h2⟩ : dayB due = true ∧ dayB filed = true := by simpa using hdf
    have b1 := dayB_yes h1; have b2 := dayB_yes h2
    obtain ⟨D, rfl⟩ : ∃ D : Nat, due = (D : Int) := ⟨due.toNat, by omega⟩
    obtain ⟨F, rfl⟩ : ∃ F : Nat, filed = (F : Int) := ⟨filed.toNat, by omega⟩
    have hD : D ≤ 3652058 := by omega
    have hF : F ≤ 3652058 := by omega
    have HS : Hid (lateS (D : Int) (F : Int) = (((lateD D F : Nat) : Int), 0)) := if_pos hdf
    clear h1 h2 b1 b2
    by_cases hle : F ≤ D
    · have HL : Hid (lateD D F = 0) := if_pos hle
      have hle' : (F : Int) ≤ (D : Int) := by omega
      go_enter Tryz.func140, Tryz.ntmps140
      go_wp2_with fail
      refine (day2 D F w).mono ?_; rintro e w' ⟨rfl, rfl⟩
      rw [hdf]; clear hdf
      go_wp2_with fail
      go_ret2
      exact ⟨ret_pr (by rw [HS.out, HL.out]; rfl), below_new _ _⟩
    · have hle' : ¬ (F : Int) ≤ (D : Int) := by omega
      have HL : Hid (lateD D F = lateM (mi D).1 (mi D).2 (mi F).1 (mi F).2) := if_neg hle
      go_enter Tryz.func140, Tryz.ntmps140
      go_wp2_with fail
      refine (day2 D F w).mono ?_; rintro e w' ⟨rfl, rfl⟩
      rw [hdf]; clear hdf
      go_wp2_with fail
      refine (date_any D _ hD).mono ?_; rintro e w1 ⟨⟨y, m, d, hd, hy, rfl⟩, hw1⟩
      have HD := Lib.hid hd; have HW1 := Lib.hid hw1; clear hd hw1
      go_wp2_with fail
      refine (date_any F _ hF).mono ?_; rintro e w2 ⟨⟨z, k, f, hf, hz, rfl⟩, hw2⟩
      have HFF := Lib.hid hf; have HW2 := Lib.hid hw2; clear hf hw2
      have hord := HD.out.order HFF.out (by omega)
      have hm := HD.out.2.1; have hk := HFF.out.2.1
      obtain ⟨Z, hZ⟩ : ∃ Z, Z = z - y := ⟨_, rfl⟩
      obtain ⟨n, hn⟩ : ∃ n, n = 12 * Z + k - m := ⟨_, rfl⟩
      have hzy : y ≤ z := by omega
      have s1 : IntKind.i64.wrap ((z : Int) - y) = (Z : Int) := by rw [IntWalk.i64_in _ (by omega)]; omega
      have s2 : IntKind.i64.wrap (12 * (Z : Int) + k - m) = (n : Int) := by rw [IntWalk.i64_in _ (by omega)]; omega
      have hZb : Z ≤ 10000 := by omega
      have hmb : m ≤ 12 := hm.2
      have hkb : k ≤ 12 := hk.2
      have hnb : n ≤ 120000 := by omega
      have HIJ : Hid (12 * y + (m - 1) + n = 12 * z + (k - 1)) := by show _ = _; omega
      have HN : Hid (n = (12 * z + (k - 1)) - (12 * y + (m - 1))) := by show _ = _; omega
      have HMS : Hid (F = ms (12 * z + (k - 1)) + (f - 1)) := HFF.out.ms.1
      have HF1 : Hid (1 ≤ f) := HFF.out.ms.2.2.1
      have HD1 : Hid (1 ≤ d ∧ 28 ≤ mlen (12 * z + (k - 1))) := ⟨HD.out.ms.2.2.1, (ml_bd _ _).1⟩
      have HA : Hid (addD D n = some (ms (12 * z + (k - 1)) + (min d (mlen (12 * z + (k - 1))) - 1))) := by
        show _ = _; unfold addD; rw [mi_eq HD.out]; simp only; rw [addM_some (by rw [HIJ.out]; omega), HIJ.out]
      have HLL : Hid (lateD D F = if min d (mlen (12 * z + (k - 1))) < f then n + 1 else n) := by
        show _ = _; rw [HL.out, mi_eq HD.out, mi_eq HFF.out]; simp only [lateM]; rw [← HN.out]
      obtain ⟨x, hx⟩ : ∃ x, ms (12 * z + (k - 1)) + (min d (mlen (12 * z + (k - 1))) - 1) = x := ⟨_, rfl⟩
      rw [hx] at HA
      have HX := Lib.hid hx
      clear hx hord hm hk hZ hn hzy
      have HMM := Lib.hid (months_any D n w2 hD hnb)
      have HB2 : Hid (Below w.heap.size w w2) := ((below_new w _).trans (HW1.out.mono (by simp))).trans (HW2.out.mono (by have := HW1.out.size; simp at this; omega))
      go_wp2_with fail
      refine HMM.out.mono ?_; rintro e w3 ⟨rfl, hw3⟩
      have HB3 : Hid (Below w.heap.size w w3) := HB2.out.trans (hw3.mono HB2.out.size)
      clear hw3
      rw [HA.out]
      simp only [monthsV]
      by_cases hxf : x < F
      · have HE : Hid (lateD D F = n + 1) := by
          show _ = _; rw [HLL.out, if_pos]
          have := HX.out; have := HMS.out; have := HF1.out; have := HD1.out; omega
        go_wp2_with fail
        go_ret2
        exact ⟨ret_pr (by rw [HS.out, HE.out]; simp), HB3.out⟩
      · have HE : Hid (lateD D F = n) := by
          show _ = _; rw [HLL.out, if_neg]
          have := HX.out; have := HMS.out; have := HF1.out; have := HD1.out; omega
        go_wp2_with fail
        go_ret2
        exact ⟨ret_pr (by rw [HS.out, HE.out]), HB3.out⟩
  · have HS : Hid (lateS due filed = (0, 1)) := if_neg hdf
    go_enter Tryz.func140, Tryz.ntmps140
    go_wp2_with fail
    refine (day2 due filed w).mono ?_; rintro e w' ⟨rfl, rfl⟩
    rw [Bool.eq_false_iff.2 hdf]; clear hdf
    go_wp2_with fail
    go_ret2
    exact ⟨ret_pr HS.out, below_new _ _⟩

theorem isDay_any (n : Int) (w : World) : Calls Tryz.prog 65 #[.int .i64 n] w fun e w' => e = .returned (.bool (dayB n)) ∧ w = w' := by
  by_cases h : dayB n = true
  · have h1 := dayB_yes h
    have H := Lib.hid h; clear h
    go_enter Tryz.func65, Tryz.ntmps65
    go_wp2
    go_ret
    exact ⟨ret_bool H.out.symm, rfl⟩
  · have h1 := dayB_no h
    have H := Lib.hid (Bool.eq_false_iff.2 h); clear h
    rcases h1 with h1 | h1
    all_goals
      go_enter Tryz.func65, Tryz.ntmps65
      go_wp2
      all_goals go_ret
      all_goals exact ⟨ret_bool (by first | exact H.out.symm | (rw [H.out]; simp; omega)), rfl⟩
theorem isMoney_any (n : Int) (w : World) : Calls Tryz.prog 149 #[.int .i64 n] w fun e w' => e = .returned (.bool (mny n)) ∧ w = w' := by
  by_cases h : mny n = true
  · have h1 := mny_yes h
    have H := Lib.hid h; clear h
    go_enter Tryz.func149, Tryz.ntmps149
    go_wp2
    go_ret
    exact ⟨ret_bool H.out.symm, rfl⟩
  · have h1 := mny_no h
    have H := Lib.hid (Bool.eq_false_iff.2 h); clear h
    rcases h1 with h1 | h1
    all_goals
      go_enter Tryz.func149, Tryz.ntmps149
      go_wp2
      all_goals go_ret
      all_goals exact ⟨ret_bool (by first | exact H.out.symm | (rw [H.out]; simp; omega)), rfl⟩
theorem monthsV_cases (o : Option Nat) : (∃ x, o = some x ∧ monthsV o = ((x : Int), 0)) ∨ (o = none ∧ monthsV o = (0, 2)) := by
  cases o with
  | some x => exact .inl ⟨x, rfl, rfl⟩
  | none => exact .inr ⟨rfl, rfl⟩
set_option maxHeartbeats 1600000 in
set_option maxRecDepth 100000 in
theorem few_any (D F : Nat) (w : World) (hD : D ≤ 3652058) (hF : F ≤ 3652058) : Calls Tryz.prog 157 #[.int .i64 D, .int .i64 F] w fun e w' => e = .returned (.int .i64 (min (lateD D F) 61 : Nat)) ∧ w = w' := by
  obtain ⟨L, hL⟩ : ∃ L, lateD D F = L := ⟨_, rfl⟩
  have HLT : Hid (∀ n, n < L → ∃ x, addD D n = some x ∧ x < F) := Lib.hid (fun n hn => late_lt hD hF (by rw [hL]; exact hn))
  have HEQ : Hid (∀ x, addD D L = some x → F ≤ x) := Lib.hid (fun x hx => late_eq hD hF x (by rw [hL]; exact hx))
  rw [hL]
  clear hL
  go_enter Tryz.func157, Tryz.ntmps157
  go_wp2_with fail
  go_loopg [5, 6, 7] 61 (fun g v5 v6 v7 wr => ∃ n : Nat, g = 61 - n ∧ n ≤ L ∧ n ≤ 61 ∧ v5 = .int .i64 n ∧ wr = w)
  case atStart => exact ⟨0, rfl, by omega, by omega, rfl, rfl⟩
  case round =>
    obtain ⟨n, hg, hn, hn2, rfl, rfl⟩ := hrel
    have HG := Lib.hid hg; clear hg
    by_cases h61 : n < 61
    · have HM := Lib.hid (rmonths_any D n wr hD (by omega))
      go_wp2_with fail
      refine HM.out.mono ?_; rintro e w' ⟨rfl, rfl⟩
      by_cases hlt : n < L
      · obtain ⟨x, hx, hxf⟩ := HLT.out n hlt
        have e : monthsV (addD D n) = ((x : Int), 0) := by rw [hx]; rfl
        rw [e]
        clear e hx
        go_wp2_with fail
        go_roundg (61 - (n + 1))
        case measure => have := HG.out; omega
        case rel => exact ⟨n + 1, rfl, by omega, by omega, by go_num, rfl⟩
      · have hnL : n = L := by omega
        have HE : Hid (min L 61 = n) := by show _ = _; omega
        rcases monthsV_cases (addD D n) with ⟨x, hx, e⟩ | ⟨hx, e⟩
        · have hxf := HEQ.out x (by rw [← hnL]; exact hx)
          rw [e]
          clear e hx
          go_wp2_with fail
          go_ret
          exact ⟨by rw [HE.out]; first | rfl | (rw [hnL]; rfl) | (rw [hn61]; rfl), rfl⟩
        · rw [e]
          clear e hx
          go_wp2_with fail
          go_ret
          exact ⟨by rw [HE.out]; first | rfl | (rw [hnL]; rfl) | (rw [hn61]; rfl), rfl⟩
    · have hn61 : n = 61 := by omega
      have HE : Hid (min L 61 = n) := by show _ = _; omega
      go_wp2_with fail
      go_ret
      exact ⟨by rw [HE.out]; first | rfl | (rw [hnL]; rfl) | (rw [hn61]; rfl), rfl⟩
end Go.Proofs.YtbjjgnaojoaoiaaGreat
