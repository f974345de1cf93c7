/- The account of a law behind its steps; AccountCredit: the walk. -/
import Derived.Test.YtbjjgnaojoaoiaaGreatK45
import Derived.Deep.QuietTactic
import Derived.BigQuiet
namespace Go.Proofs.YtbjjgnaojoaoiaaGreat
open Go.RowKit Go
set_option linter.unusedVariables false
set_option linter.unusedSimpArgs false

/-- The account of the law, behind some calls. -/
structure AccZ (w wr : World) (g : Nat) (S : Ac) : Prop where
  own : OwnAt wr 0 g S
  good : Good S
  bel : Below w.heap.size w wr
theorem AccZ.step {w wr w' : World} {g : Nat} {S : Ac} {r : Ac × Mv × Int} {e : Ending} (h : AccZ w wr g S) (hg : w.heap.size ≤ g) (hd : DoesOf wr g S r e w') (hG : Good r.1) (hS : r.2.2 ≠ 0 → r.1 = S) : AccZ w w' g r.1 := by
  have hb : Below w.heap.size w w' := ⟨hd.1.os.trans h.bel.os, hd.1.tape.trans h.bel.tape, hd.1.output.trans h.bel.output, Nat.le_trans h.bel.size hd.1.size, fun k hk => (hd.1.block k (Nat.lt_of_lt_of_le hk h.bel.size) (fun e => by have := Option.some.inj e; omega)).trans (h.bel.block k hk)⟩
  rcases hd.2 with ⟨h0, _, ho⟩ | ⟨h0, _, ho⟩
  · exact ⟨ho, hG, hb⟩
  · rw [hS h0]; exact ⟨ho, h.good, hb⟩
theorem AccZ.below {w wr w' : World} {g : Nat} {S : Ac} (h : AccZ w wr g S) (hb : Below wr.heap.size wr w') : AccZ w w' g S := ⟨h.own.below hb, h.good, h.bel.trans (hb.mono h.bel.size)⟩
theorem DoesOf.good {w w' : World} {g : Nat} {S : Ac} {r : Ac × Mv × Int} {e : Ending} (hd : DoesOf w g S r e w') (h0 : r.2.2 = 0) : e = .returned (mvR r.2.1 0) := by
  rcases hd.2 with ⟨_, e, _⟩ | ⟨h, _⟩
  · exact e
  · exact absurd h0 h
theorem DoesOf.bad {w w' : World} {g : Nat} {S : Ac} {r : Ac × Mv × Int} {e : Ending} (hd : DoesOf w g S r e w') (h0 : r.2.2 ≠ 0) : e = .returned (mvR Mv.zero r.2.2) := by
  rcases hd.2 with ⟨h, _⟩ | ⟨_, e, _⟩
  · exact absurd h h0
  · exact e
set_option maxHeartbeats 6400000 in
set_option maxRecDepth 100000 in
theorem accountCredit_walk (A : Option Addr) (n c : Nat) (l : List Stp) (rf of : Int) (w : World) (h : RdS w A n l) (hm : n ≤ maxLen) :
    Calls Tryz.prog 6 #[.slice A n c, .int .i64 rf, .int .i64 of] w fun e w' => e = .returned (.bool true) ∧ Below w.heap.size w w' := by
  have HR := Lib.hid h; have HM := Lib.hid hm
  unfold maxLen at hm
  have HN := Lib.hid h.len
  clear h
  go_enter Tryz.func6, Tryz.ntmps6
  go_wp2_with fail
  refine (wake_any w).mono ?_; rintro e w1 ⟨rfl, hb1⟩
  have HB1 := Lib.hid hb1
  have HMU := Lib.hid (much_any A n c l w1 (HR.out.below hb1) HM.out)
  clear hb1
  go_wp2_with fail
  refine HMU.out.mono ?_; rintro e w1' ⟨⟨bm, rfl⟩, rfl⟩
  clear HMU
  go_wp2_with fail
  refine (new_yes 738000 700 w1 (by decide) (by decide)).mono ?_; rintro e w2 ⟨rfl, ho2, hb2⟩
  have hg2 := ho2.lt
  have hgw : w.heap.size ≤ w1.heap.size := HB1.out.size
  obtain ⟨g, hg⟩ : ∃ g, w1.heap.size = g := ⟨_, rfl⟩
  rw [hg] at ho2 hg2 hgw ⊢
  have HA0 : Hid (AccZ w w2 g (Ac.new 738000 700)) := Lib.hid ⟨ho2.mono (Nat.zero_le _), Good.new (by decide) (by decide), HB1.out.trans (hb2.mono HB1.out.size)⟩
  clear ho2 hb2 hg HB1
  by_cases hok : bm = false ∧ (1 ≤ rf ∧ rf ≤ 1125899906842624) ∧ 1 ≤ of ∧ of ≤ 1125899906842624
  · obtain ⟨rfl, ⟨r1, r2⟩, r3, r4⟩ := hok
    have d1 : decide (rf < 1) = false := by simp; omega
    have d2 : decide (rf > 1125899906842624) = false := by simp; omega
    have d3 : decide (of < 1) = false := by simp; omega
    have d4 : decide (of > 1125899906842624) = false := by simp; omega
    go_upto_block 0 with fail
    go_cut [11] from 54 to 69 (fun v11 wc => ∃ S : Ac, AccZ w wc g S)
    case first =>
      go_wp2_with fail
      go_loopg [11] n (fun gh v11 wr => ∃ (k : Nat) (S : Ac), gh = n - k ∧ k ≤ n ∧ k ≤ 60 ∧ v11 = .int .i64 k ∧ AccZ w wr g S)
      case atStart => exact ⟨0, _, rfl, by omega, by omega, rfl, HA0.out⟩
      case round =>
        obtain ⟨k, S, hgk, hk, hk60, rfl, hinv⟩ := hrel
        have HG := Lib.hid hgk; have HV := Lib.hid hinv
        by_cases hlt : k < n
        · by_cases h60 : k < 60
          · have hkl : k < l.length := by have := HN.out; omega
            obtain ⟨b, off, rfl, hb, hst⟩ := (HR.out.below hinv.bel).at_ hkl
            have hbr := (HR.out.below hinv.bel).brs _ (List.getElem_mem hkl)
            generalize l[k] = t at *
            obtain ⟨c0, c1, c2, c3, c4, c5, c6, c7, c8, c9, c10, c11, c12, c13, c14⟩ := hst
            have HO := Lib.hid (ours_any g 0 S t wr hinv.own hinv.good hbr)
            have hd0 : decide ((k : Int) < 60) = true := by simp; omega
            have i1 : (0 : Int) ≤ (k : Int) := by omega
            have i2 : (k : Int) < (n : Int) := by omega
            have HST := Lib.hid (fun w' e (hd : DoesOf wr g S (stepS S t) e w') => hinv.step hgw hd (hinv.good.step t) step_same)
            clear hinv hgk hbr
            go_wp2_with fail
            refine HO.out.mono ?_; intro e w5 hd
            have HK := Lib.hid (HST.out w5 e hd)
            obtain ⟨m, er, rfl⟩ := hd.form
            clear hd HO HST
            go_wp2_with fail
            go_roundg (n - (k + 1))
            case measure => have := HG.out; omega
            case rel => exact ⟨k + 1, _, rfl, by omega, by omega, by go_num, HK.out⟩
          · have hd0 : decide ((k : Int) < 60) = false := by simp; omega
            clear hinv hgk
            go_wp2_with fail
            all_goals go_meet
            all_goals exact ⟨S, HV.out⟩
        · clear hinv hgk
          go_wp2_with fail
          all_goals go_meet
          all_goals exact ⟨S, HV.out⟩
    case rest =>
      obtain ⟨S, hinv⟩ := hcut
      have HV := Lib.hid hinv
      obtain ⟨cr, hcr⟩ : ∃ cr, S.cr = cr := ⟨_, rfl⟩
      have HCD := Lib.hid (credit_eq g 0 S wc hinv.own)
      have HRF := Lib.hid (refund_any g 0 S rf wc hinv.own hinv.good.small hinv.good.cr.2)
      have hcrb := hinv.good.cr
      have HST := Lib.hid (fun w' e (hd : DoesOf wc g S (refundS S rf) e w') => hinv.step hgw hd (hinv.good.refund rf) refund_same)
      rw [hcr] at HCD hcrb
      have HCR := Lib.hid hcr
      have hlaw := refund_law S (a := rf) ⟨r1, r2⟩
      have HLAW := Lib.hid hlaw
      clear hinv hcr hlaw
      go_wp2_with fail
      refine HCD.out.mono ?_; rintro e wd ⟨rfl, rfl⟩
      clear HCD
      go_wp2_with fail
      refine HRF.out.mono ?_; intro e w3 hd3
      have ha3 := HST.out w3 e hd3
      obtain ⟨m, er, S1, rfl, hfa, hacc⟩ : ∃ m er S1, e = .returned (mvR m er) ∧ ((er = 0 ∧ m.cash = -rf ∧ S1.cr = cr - rf ∧ rf ≤ cr) ∨ (er = 2 ∧ cr < rf)) ∧ AccZ w w3 g S1 := by
        rcases HLAW.out with ⟨hle, he⟩ | ⟨hlt, he⟩
        · have h1 := hd3.good (by rw [he])
          rw [he] at h1 ha3
          exact ⟨_, _, _, h1, .inl ⟨rfl, rfl, by show S.cr - rf = _; rw [HCR.out], by rw [← HCR.out]; exact hle⟩, ha3⟩
        · have h1 := hd3.bad (by rw [he]; exact (by decide : (2 : Int) ≠ 0))
          rw [he] at h1 ha3
          exact ⟨_, _, _, h1, .inr ⟨rfl, by rw [← HCR.out]; exact hlt⟩, ha3⟩
      obtain ⟨m0, m1, m2, m3, m4, m5⟩ := m
      simp only at hfa
      clear hd3 ha3 HST HLAW HRF HCR HV
      have hax := hacc.below (bnewU w3 (.cells #[.int .i64 m0, .int .i64 m1, .int .i64 m2, .int .i64 m3, .int .i64 m4, .int .i64 m5] 33))
      have hmx := blk_new w3 (.cells #[.int .i64 m0, .int .i64 m1, .int .i64 m2, .int .i64 m3, .int .i64 m4, .int .i64 m5] 33) rfl
      have HFA := Lib.hid hfa
      clear hacc hfa
      go_upto_region 12 with fail
      obtain ⟨gx, hgx⟩ : ∃ gx, w3.heap.size = gx := ⟨_, rfl⟩
      rw [hgx] at hmx ⊢
      generalize w3.alloc (.cells #[.int .i64 m0, .int .i64 m1, .int .i64 m2, .int .i64 m3, .int .i64 m4, .int .i64 m5] 33) = X at *
      clear hgx
      obtain ⟨cr1, hcr1⟩ : ∃ cr1, S1.cr = cr1 := ⟨_, rfl⟩
      have HCD1 := Lib.hid (credit_eq g 0 S1 X hax.own)
      have hcb1 := hax.good.cr
      rw [hcr1] at HCD1 hcb1
      have HCR1 := Lib.hid hcr1; have HAX := Lib.hid hax; have HMX := Lib.hid hmx
      clear hax hmx hcr1
      go_cut [110] from 78 to 109 (fun v110 wy => v110 = .bool false ∧ wy = X)
      case first =>
        obtain ⟨x0, x1, x2, x3, x4, x5, x6⟩ := cells6U HMX.out
        have hxl := blk_lt HMX.out
        rcases HFA.out with ⟨rfl, rfl, h3, h4⟩ | ⟨rfl, h4⟩
        · have d5 : decide (rf ≤ cr) = true := by simpa using h4
          have hwn : IntKind.i64.wrap (-rf) = -rf := IntWalk.i64_in _ (by omega)
          rw [HCR1.out] at h3
          have hws : IntKind.i64.wrap (cr - rf) = cr1 := by rw [h3]; exact IntWalk.i64_in _ (by omega)
          clear h3
          go_wp2_with fail
          refine HCD1.out.mono ?_; rintro e wz ⟨rfl, rfl⟩
          go_wp2_with fail
          all_goals go_meet
          all_goals exact ⟨rfl, rfl⟩
        · have d5 : decide (rf ≤ cr) = false := by simpa using h4
          go_wp2_with fail
          all_goals go_meet
          all_goals exact ⟨rfl, rfl⟩
      case rest =>
        obtain ⟨rfl, rfl⟩ := hcut
        have hG1 := HAX.out.good
        have HOF := Lib.hid (offset_any g 0 S1 of wc HAX.out.own hG1)
        have HST := Lib.hid (fun w' e (hd : DoesOf wc g S1 (offsetS S1 of) e w') => HAX.out.step hgw hd (hG1.offset of) offset_same)
        have hlaw := offset_law hG1 (a := of) ⟨r3, r4⟩
        rw [HCR1.out] at hlaw
        have HLAW := Lib.hid hlaw
        clear hG1 hlaw
        go_wp2_with fail
        refine HCD1.out.mono ?_; rintro e wz ⟨rfl, rfl⟩
        clear HCD1
        go_wp2_with fail
        refine HOF.out.mono ?_; intro e w5 hd5
        have ha5 := HST.out w5 e hd5
        obtain ⟨m, er2, S2, rfl, hfa, hpd, hacc⟩ : ∃ m er S2, e = .returned (mvR m er) ∧ ((er = 0 ∧ of ≤ cr1) ∨ (er = 2 ∧ cr1 < of)) ∧ (0 ≤ m.paid ∧ m.paid ≤ of ∧ S2.cr = cr1 - m.paid) ∧ AccZ w w5 g S2 := by
          rcases HLAW.out with ⟨hle, he, k1, k2, k3⟩ | ⟨hlt, he⟩
          · have h1 := hd5.good he
            exact ⟨_, _, _, h1, .inl ⟨rfl, hle⟩, ⟨k2, k3, k1⟩, ha5⟩
          · have h1 := hd5.bad (by rw [he]; exact (by decide : (2 : Int) ≠ 0))
            rw [he] at h1 ha5
            exact ⟨_, _, _, h1, .inr ⟨rfl, hlt⟩, ⟨by show (0 : Int) ≤ 0; omega, by show (0 : Int) ≤ of; omega, by show S1.cr = cr1 - 0; rw [HCR1.out]; omega⟩, ha5⟩
        obtain ⟨q0, q1, q2, q3, q4, q5⟩ := m
        simp only at hfa hpd
        clear hd5 ha5 HST HLAW HOF HAX HMX HCR1 HFA
        have hax := hacc.below (bnewU w5 (.cells #[.int .i64 q0, .int .i64 q1, .int .i64 q2, .int .i64 q3, .int .i64 q4, .int .i64 q5] 33))
        have hmx := blk_new w5 (.cells #[.int .i64 q0, .int .i64 q1, .int .i64 q2, .int .i64 q3, .int .i64 q4, .int .i64 q5] 33) rfl
        have HFA := Lib.hid hfa
        clear hacc hfa
        go_upto_region 16 with fail
        obtain ⟨gy, hgy⟩ : ∃ gy, w5.heap.size = gy := ⟨_, rfl⟩
        rw [hgy] at hmx ⊢
        generalize w5.alloc (.cells #[.int .i64 q0, .int .i64 q1, .int .i64 q2, .int .i64 q3, .int .i64 q4, .int .i64 q5] 33) = Y at *
        clear hgy
        go_cut [132] from 119 to 131 (fun v132 wy => v132 = .bool false ∧ wy = Y)
        case first =>
          rcases HFA.out with ⟨rfl, h4⟩ | ⟨rfl, h4⟩
          · have d5 : decide (of ≤ cr1) = true := by simpa using h4
            go_wp2_with fail
            all_goals go_meet
            all_goals exact ⟨rfl, rfl⟩
          · have d5 : decide (of ≤ cr1) = false := by simpa using h4
            go_wp2_with fail
            all_goals go_meet
            all_goals exact ⟨rfl, rfl⟩
        case rest =>
          obtain ⟨rfl, rfl⟩ := hcut
          obtain ⟨x0, x1, x2, x3, x4, x5, x6⟩ := cells6U hmx
          have hxl := blk_lt hmx
          obtain ⟨p1, p2, p3⟩ := hpd
          have hcb2 := hax.good.cr
          obtain ⟨cr2, hcr2⟩ : ∃ cr2, S2.cr = cr2 := ⟨_, rfl⟩
          have HCD2 := Lib.hid (fun n => credit_eq g 0 S2 (wc.drewN n) (hax.own.below (below_drewN (Below.refl _ _) _)))
          rw [hcr2] at HCD2 hcb2 p3
          have hws : IntKind.i64.wrap (cr1 - q3) = cr2 := by rw [p3]; exact IntWalk.i64_in _ (by omega)
          have hmx0 : max of 0 = of := by omega
          have e1 : decide (q3 ≥ 0) = true := by simpa using p1
          have e2 : decide (q3 ≤ of) = true := by simpa using p2
          have e3 : decide (cr2 ≥ 0) = true := by simp; omega
          have HAX := Lib.hid hax
          clear p3 hax hmx hcr2
          go_wp2_with fail
          go_quiet ((go_at_call 12; exact Calls.quiet_of_same (HCD2.out _)))
          go_wp2_with fail
          all_goals go_ret
          all_goals exact ⟨rfl, HAX.out.bel.trans ((below_drewN (Below.refl _ _) _ : Below wc.heap.size wc _).mono HAX.out.bel.size)⟩
  · by_cases hb : bm = true
    · subst hb
      go_wp2_with fail
      all_goals go_ret
      all_goals exact ⟨rfl, HA0.out.bel⟩
    · have hb' : bm = false := by simpa using hb
      subst hb'
      by_cases q1 : rf < 1
      · have d1 : decide (rf < 1) = true := by simpa using q1
        clear hok
        go_wp2_with fail
        all_goals go_ret
        all_goals exact ⟨rfl, HA0.out.bel⟩
      have d1 : decide (rf < 1) = false := by simpa using q1
      by_cases q2 : 1125899906842624 < rf
      · have d2 : decide (rf > 1125899906842624) = true := by simpa using q2
        clear hok
        go_wp2_with fail
        all_goals go_ret
        all_goals exact ⟨rfl, HA0.out.bel⟩
      have d2 : decide (rf > 1125899906842624) = false := by simpa using q2
      by_cases q3 : of < 1
      · have d3 : decide (of < 1) = true := by simpa using q3
        clear hok
        go_wp2_with fail
        all_goals go_ret
        all_goals exact ⟨rfl, HA0.out.bel⟩
      have d3 : decide (of < 1) = false := by simpa using q3
      by_cases q4 : 1125899906842624 < of
      · have d4 : decide (of > 1125899906842624) = true := by simpa using q4
        clear hok
        go_wp2_with fail
        all_goals go_ret
        all_goals exact ⟨rfl, HA0.out.bel⟩
      exact absurd ⟨rfl, ⟨by omega, by omega⟩, by omega, by omega⟩ hok
end Go.Proofs.YtbjjgnaojoaoiaaGreat
