/- AccountUndone: the walk. -/
import Derived.Test.YtbjjgnaojoaoiaaGreatK61
import Derived.Test.YtbjjgnaojoaoiaaGreatK36
import Derived.Test.YtbjjgnaojoaoiaaGreatK41
import Derived.Deep.RegionLaw
namespace Go.Proofs.YtbjjgnaojoaoiaaGreat
open Go.RowKit Go
set_option linter.unusedVariables false
set_option linter.unusedSimpArgs false

theorem DoesOf.row {w w' : World} {g : Nat} {S : Ac} {r : Ac × Mv × Int} {e : Ending} {B n s : Nat} {t : TypeId} {v : Value} {xs : List Value} (hd : DoesOf w g S r e w') (ho : OwnAt w 0 g S) (h : w.ownsRow B t s v n xs) (ht : t ≠ 83) : w'.ownsRow B t s v n xs :=
  own_keep h (fun b cs hb => hd.1.block b (blk_lt hb) (fun e => by
    obtain ⟨vp, vq, hcell⟩ := ho.cell
    have e' : b = g := Option.some.inj e
    subst e'
    exact ne_of_type' hcell hb (Ne.symm ht) rfl))
/-- A call that stands behind a guard that is met. -/
theorem step_call1G {P : Program} {w : World} {ops : Array Oper} {o : Oper} {a : Act} {K : Act → World → Prop} {Q : Exit → Act → World → Prop} {E : Prop} (f : FuncId) (x : Operand) (s : TypeId)
    (ho : o.op = .call { callee := .value (.func f), args := #[x], argTypes := #[s] }) (u : Value) (hu : a.eval x = u)
    (hcf : ∀ w, (callFunc f #[u]).run P w = .ok (.enter f #[u]) w) (hw : Region.wanted o (yielded ops a.tmps) = true)
    (hc : Calls P f #[u] w fun e w' => ∃ u, e = .returned u ∧ K (a.put o.dst u) w') :
    if Region.wanted o (yielded ops a.tmps) = true then Oper.wp P o a w K Q else E := by
  rw [if_pos hw]
  unfold Oper.wp
  have hrun : (execOp a.eval o).run P w = .ok (.enter f #[u]) w := by
    have hf : a.eval (.func f) = .func (.func f) #[] #[] := rfl
    subst hu
    simp [execOp, ho, resolve, invoke, hf, Deferred.ofValue, hcf]
  rw [hrun, Oper.upon_enter]
  exact hc.mono (by rintro e w' ⟨u, rfl, h⟩; exact h)
@[reducible] def mvO6 (m0 m1 m2 m3 m4 m5 : Int) : Obj := .cells #[.int .i64 m0, .int .i64 m1, .int .i64 m2, .int .i64 m3, .int .i64 m4, .int .i64 m5] 33
set_option maxHeartbeats 6400000 in
set_option maxRecDepth 100000 in
theorem accountUndone_walk (A : Option Addr) (n c : Nat) (l : List Stp) (id am : Int) (w : World) (h : RdS w A n l) (hm : n ≤ maxLen) :
    Calls Tryz.prog 7 #[.slice A n c, .int .i64 id, .int .i64 am] w fun e w' => e = .returned (.bool true) ∧ Below w.heap.size w w' := by
  have HR := Lib.hid h; have HM := Lib.hid hm
  unfold maxLen at hm
  have HN := Lib.hid h.len
  clear h
  go_enter Tryz.func7, Tryz.ntmps7
  go_wp2_with fail
  refine (wake_any w).mono ?_; rintro e w1 ⟨rfl, hb1⟩
  have HB1 := Lib.hid hb1
  have HMU := Lib.hid (much_any A n c l w1 (HR.out.below hb1) HM.out)
  clear hb1
  go_wp2_with fail
  refine HMU.out.mono ?_; rintro e w1' ⟨⟨bm, rfl⟩, rfl⟩
  clear HMU
  go_wp2_with fail
  refine (new_yes 738000 700 w1 (by decide) (by decide)).mono ?_; rintro e w2 ⟨rfl, ho2, hb2⟩
  have hg2 := ho2.lt
  have hgw : w.heap.size ≤ w1.heap.size := HB1.out.size
  obtain ⟨g, hg⟩ : ∃ g, w1.heap.size = g := ⟨_, rfl⟩
  rw [hg] at ho2 hg2 hgw ⊢
  have HA0 : Hid (AccZ w w2 g (Ac.new 738000 700)) := Lib.hid ⟨ho2.mono (Nat.zero_le _), Good.new (by decide) (by decide), HB1.out.trans (hb2.mono HB1.out.size)⟩
  clear ho2 hb2 hg HB1
  by_cases hok : bm = false
  · subst hok
    go_upto_block 0 with fail
    go_cut [11] from 45 to 75 (fun v11 wc => ∃ S : Ac, AccZ w wc g S)
    case first =>
      -- <heavy>
      go_wp2_with fail
      go_loopg [11] n (fun gh v11 wr => ∃ (k : Nat) (S : Ac), gh = n - k ∧ k ≤ n ∧ k ≤ 60 ∧ v11 = .int .i64 k ∧ AccZ w wr g S)
      case atStart => exact ⟨0, _, rfl, by omega, by omega, rfl, HA0.out⟩
      case round =>
        obtain ⟨k, S, hgk, hk, hk60, rfl, hinv⟩ := hrel
        have HG := Lib.hid hgk; have HV := Lib.hid hinv
        by_cases hlt : k < n
        · by_cases h60 : k < 60
          · have hkl : k < l.length := by have := HN.out; omega
            have hd0 : decide ((k : Int) < 60) = true := by simp; omega
            have HSV := Lib.hid (save_any g 0 S wr hinv.own hinv.good)
            have i1 : (0 : Int) ≤ (k : Int) := by omega
            have i2 : (k : Int) < (n : Int) := by omega
            clear hinv hgk
            go_wp2_with fail
            refine HSV.out.mono ?_; rintro e w3 ⟨Ab, cb, rfl, hrow, hb3⟩
            have hinv := HV.out.below hb3
            obtain ⟨b, off, rfl, hb, hst⟩ := (HR.out.below hinv.bel).at_ hkl
            have hbr := (HR.out.below hinv.bel).brs _ (List.getElem_mem hkl)
            generalize l[k] = t at *
            obtain ⟨c0, c1, c2, c3, c4, c5, c6, c7, c8, c9, c10, c11, c12, c13, c14⟩ := hst
            have HO := Lib.hid (ours_any g 0 S t w3 hinv.own hinv.good hbr)
            have hsl := saveB_pos S
            have HST := Lib.hid (fun w' e (hd : DoesOf w3 g S (stepS S t) e w') => And.intro (hinv.step hgw hd (hinv.good.step t) step_same) (hd.row hinv.own hrow (by decide)))
            obtain ⟨sb, hsb⟩ : ∃ sb, saveB S = sb := ⟨_, rfl⟩
            rw [hsb] at hsl HST ⊢
            obtain ⟨nb, hnb⟩ : ∃ nb, sb.length = nb := ⟨_, rfl⟩
            rw [hnb] at hsl HST ⊢
            have HSB := Lib.hid hsb; have HNB := Lib.hid hnb
            clear hinv hbr hrow hb3 hsb hnb HSV
            go_wp2_with fail
            refine HO.out.mono ?_; intro e w5 hd
            obtain ⟨hacc, hrow⟩ := HST.out w5 e hd
            by_cases h0 : (stepS S t).2.2 = 0
            · have h1 := hd.good h0
              have hacc2 : AccZ w w5 g (stepS S t).1 := hacc
              obtain ⟨S5, hS5⟩ : ∃ S5, (stepS S t).1 = S5 := ⟨_, rfl⟩
              obtain ⟨m, hm5⟩ : ∃ m, (stepS S t).2.1 = m := ⟨_, rfl⟩
              rw [hm5] at h1; rw [hS5] at hacc2
              subst h1
              obtain ⟨m0, m1, m2, m3, m4, m5⟩ := m
              have hax := hacc2.below (bnewU w5 (mvO6 m0 m1 m2 m3 m4 m5))
              have HAX := Lib.hid hax
              clear hd hacc hacc2 hrow HST HO hS5 hm5 hax h0 HV
              go_upto_region 11 with fail
              generalize w5.alloc (mvO6 m0 m1 m2 m3 m4 m5) = X at *
              go_quiet (fail)
              have hbq : Below X.heap.size X (X.drewN nq) := below_drewN (Below.refl _ _) _
              have HA4 := Lib.hid (HAX.out.below hbq)
              clear hbq
              go_wp2_with fail
              go_roundg (n - (k + 1))
              case measure => have := HG.out; omega
              case rel => exact ⟨k + 1, _, rfl, by omega, by omega, by go_num, HA4.out⟩
            · have h1 : e = .returned (mvR ⟨0, 0, 0, 0, 0, 0⟩ (stepS S t).2.2) := hd.bad h0
              have hsame := step_same h0
              rw [hsame] at hacc
              obtain ⟨er, her⟩ : ∃ er, (stepS S t).2.2 = er := ⟨_, rfl⟩
              rw [her] at h0 h1
              subst h1
              have hax := hacc.below (bnewU w5 (mvO6 0 0 0 0 0 0))
              have hrx := own_below hrow (bnewU w5 (mvO6 0 0 0 0 0 0))
              have hne : (er != 0) = true := by simpa using h0
              have HAX := Lib.hid hax; have HRX := Lib.hid hrx
              clear hd hacc hrow HST HO hsame her hax hrx h0 HV
              go_upto_region 11 with fail
              generalize w5.alloc (mvO6 0 0 0 0 0 0) = X at *
              have HSV := Lib.hid (save_any g 0 S X.drew (HAX.out.own.below (Below.refl _ _).drew) HAX.out.good)
              rw [HSB.out] at HSV
              have hcv1 := conv_bytes HRX.out HNB.out hsl
              have hcv2 := conv_bytes (own_drew HRX.out) HNB.out hsl
              go_region_law (refine step_call1G 26 (.tmp 69) 27 rfl (.pointer (some ⟨g, 0, none⟩)) rfl (save_enter _) (by rfl) ?_
                             refine HSV.out.mono ?_; rintro e w6 ⟨A6, c6, rfl, hr6, hb6⟩; refine ⟨_, rfl, ?_⟩
                             have hbx6 : Below X.heap.size X w6 := ((Below.refl X.heap.size X).drew).trans hb6
                             have hcv3 := conv_bytes (own_below HRX.out hbx6) HNB.out hsl
                             rw [HNB.out] at hr6 ⊢
                             have hcv4 := conv_bytes hr6 HNB.out hsl
                             have HA6 := Lib.hid (HAX.out.below hbx6)
                             clear hr6 hb6 hbx6)
              all_goals clear hcv1 hcv2 hcv3 hcv4
              all_goals go_wp2_with fail
              all_goals go_roundg (n - (k + 1))
              all_goals first
                | exact ⟨k + 1, _, rfl, by omega, by omega, by go_num, HA6.out⟩
                | (have := HG.out; omega)
          · have hd0 : decide ((k : Int) < 60) = false := by simp; omega
            clear hinv hgk
            go_wp2_with fail
            all_goals go_meet
            all_goals exact ⟨S, HV.out⟩
        · clear hinv hgk
          go_wp2_with fail
          all_goals go_meet
          all_goals exact ⟨S, HV.out⟩
      -- </heavy>
    case rest =>
      obtain ⟨S, hinv⟩ := hcut
      have hG := hinv.good
      have HV := Lib.hid hinv; have HG := Lib.hid hG
      have HIT := Lib.hid (uitems_any g 0 S wc hinv.own hG)
      have hlen200 : (openS S.ps).length ≤ 200 := (placesE_ok (openS_places hG.places)).1
      obtain ⟨its, hits⟩ : ∃ its, openS S.ps = its := ⟨_, rfl⟩
      unfold ItemsOut at HIT
      rw [hits] at HIT hlen200
      obtain ⟨nn, hnn⟩ : ∃ nn, its.length = nn := ⟨_, rfl⟩
      rw [hnn] at HIT hlen200
      obtain ⟨cr, hcr⟩ : ∃ cr, S.cr = cr := ⟨_, rfl⟩
      have HITS := Lib.hid hits; have HNN := Lib.hid hnn; have HCR := Lib.hid hcr
      clear hinv hG hits hnn hcr
      go_wp2_with fail
      refine HIT.out.mono ?_; rintro e w3 ⟨Ai, ci, rfl, ho3, hb3⟩
      have HRI := Lib.hid (own_mono ho3 (Nat.zero_le _))
      have HA3 := Lib.hid (HV.out.below hb3)
      have HCD := Lib.hid (credit_eq g 0 S w3 HA3.out.own)
      rw [HCR.out] at HCD
      have HPY := Lib.hid (pay_any0 g 0 S id am w3 HA3.out.own HG.out)
      have HST := Lib.hid (fun w' e (hd : DoesOf w3 g S (payS S id am) e w') => HA3.out.step hgw hd (HG.out.pay _ _) pay_same)
      clear ho3 hb3 HIT HV
      go_wp2_with fail
      refine HCD.out.mono ?_; rintro e wx ⟨rfl, rfl⟩
      clear HCD
      go_wp2_with fail
      refine HPY.out.mono ?_; intro e w4 hd4
      have ha4 := HST.out w4 e hd4
      by_cases h0 : (payS S id am).2.2 = 0
      · have h1 := hd4.good h0
        have hrow4 := hd4.row HA3.out.own HRI.out (by decide)
        obtain ⟨u1, u2, u3, u4⟩ := undone HG.out h0
        obtain ⟨S4, hS4⟩ : ∃ S4, (payS S id am).1 = S4 := ⟨_, rfl⟩
        obtain ⟨m, hm4⟩ : ∃ m, (payS S id am).2.1 = m := ⟨_, rfl⟩
        rw [hS4] at ha4 u1 u2 u3 u4
        rw [hm4] at h1
        subst h1
        obtain ⟨m0, m1, m2, m3, m4, m5⟩ := m
        have ha4' := ha4.below (bnewU w4 (mvO6 m0 m1 m2 m3 m4 m5))
        have hr4' := own_below hrow4 (bnewU w4 (mvO6 m0 m1 m2 m3 m4 m5))
        rw [HITS.out] at u2; rw [HCR.out] at u3
        have U1 := Lib.hid u1; have U2 := Lib.hid u2; have U3 := Lib.hid u3; have U4 := Lib.hid u4; have HA4 := Lib.hid ha4'; have HR4 := Lib.hid hr4'
        clear hd4 ha4 hrow4 u1 u2 u3 u4 hS4 hm4 ha4' hr4' h0 HST HPY HA3 HRI
        go_upto_region 18 with fail
        generalize w4.alloc (mvO6 m0 m1 m2 m3 m4 m5) = X at *
        have HRV := Lib.hid (reverse_any g 0 S4 id X HA4.out.own HA4.out.good)
        have HST := Lib.hid (fun w' e (hd : DoesOf X g S4 (reverseS S4 id) e w') => HA4.out.step hgw hd (HA4.out.good.reverse _) reverse_same)
        go_wp2_with fail
        refine HRV.out.mono ?_; intro e w5 hd5
        have ha5 := HST.out w5 e hd5
        have h1 := hd5.good U1.out
        have hrow5 := hd5.row HA4.out.own HR4.out (by decide)
        obtain ⟨S5, hS5⟩ : ∃ S5, (reverseS S4 id).1 = S5 := ⟨_, rfl⟩
        obtain ⟨m, hm5⟩ : ∃ m, (reverseS S4 id).2.1 = m := ⟨_, rfl⟩
        have u2 := U2.out; have u3 := U3.out; have u4 := U4.out
        rw [hS5] at ha5 u2 u3 u4
        rw [hm5] at h1
        subst h1
        obtain ⟨p0, p1, p2, p3, p4, p5⟩ := m
        have ha5' := ha5.below (bnewU w5 (mvO6 p0 p1 p2 p3 p4 p5))
        have hr5' := own_below hrow5 (bnewU w5 (mvO6 p0 p1 p2 p3 p4 p5))
        have V2 := Lib.hid u2; have V3 := Lib.hid u3; have V4 := Lib.hid u4; have HA5 := Lib.hid ha5'; have HR5 := Lib.hid hr5'
        clear hd5 ha5 hrow5 u2 u3 u4 hS5 hm5 ha5' hr5' HST HRV U1 U2 U3 U4 HA4 HR4
        go_upto_region 19 with fail
        generalize w5.alloc (mvO6 p0 p1 p2 p3 p4 p5) = Y at *
        have HRV := Lib.hid (reverse_any g 0 S5 id Y HA5.out.own HA5.out.good)
        have HST := Lib.hid (fun w' e (hd : DoesOf Y g S5 (reverseS S5 id) e w') => HA5.out.step hgw hd (HA5.out.good.reverse _) reverse_same)
        go_wp2_with fail
        refine HRV.out.mono ?_; intro e w6 hd6
        have hne : (reverseS S5 id).2.2 ≠ 0 := by rw [V4.out]; exact (by decide : (5 : Int) ≠ 0)
        have ha6 := HST.out w6 e hd6
        rw [reverse_same hne] at ha6
        have h1 : e = .returned (mvR ⟨0, 0, 0, 0, 0, 0⟩ (reverseS S5 id).2.2) := hd6.bad hne
        rw [V4.out] at h1
        have hrow6 := hd6.row HA5.out.own HR5.out (by decide)
        subst h1
        have ha6' := ha6.below (bnewU w6 (mvO6 0 0 0 0 0 0))
        have hr6' := own_below hrow6 (bnewU w6 (mvO6 0 0 0 0 0 0))
        have HA6 := Lib.hid ha6'; have HR6 := Lib.hid hr6'
        clear hd6 ha6 hrow6 hne ha6' hr6' HST HRV V4 HA5 HR5
        go_upto_region 20 with fail
        generalize w6.alloc (mvO6 0 0 0 0 0 0) = Z at *
        have HIT := Lib.hid (uitems_any g 0 S5 Z HA6.out.own HA6.out.good)
        unfold ItemsOut at HIT
        rw [V2.out, HNN.out] at HIT
        go_wp2_with fail
        refine HIT.out.mono ?_; rintro e w7 ⟨A7, c7, rfl, ho7, hb7⟩
        have hr7 := own_below HR6.out hb7
        have HSM := Lib.hid (sameItU_any A7 Ai its nn nn c7 ci w7 (Rd.of_own (own_mono ho7 (Nat.zero_le _))) (Rd.of_own hr7) (by omega))
        have HA7 := Lib.hid (HA6.out.below hb7)
        clear ho7 hb7 hr7 HIT HA6 HR6 V2
        go_wp2_with fail
        refine HSM.out.mono ?_; rintro e w8 ⟨rfl, hb8⟩
        have HA8 := Lib.hid (HA7.out.below hb8)
        clear HSM HA7 hb8
        have HCD := Lib.hid (credit_eq g 0 S5 w8 HA8.out.own)
        rw [V3.out] at HCD
        go_wp2_with fail
        refine HCD.out.mono ?_; rintro e wx ⟨rfl, rfl⟩
        go_wp2_with fail
        all_goals go_ret
        all_goals exact ⟨rfl, HA8.out.bel⟩
      · have h1 : e = .returned (mvR ⟨0, 0, 0, 0, 0, 0⟩ (payS S id am).2.2) := hd4.bad h0
        have hee := pay_errs_any S id am
        rw [pay_same h0] at ha4
        obtain ⟨er, her⟩ : ∃ er, (payS S id am).2.2 = er := ⟨_, rfl⟩
        rw [her] at hee h1 h0
        subst h1
        have HB4 := Lib.hid ha4.bel
        clear hd4 ha4 HST HPY her HA3 HRI
        rcases hee with e5 | e5 | e5 | e5
        · exact absurd e5 h0
        all_goals
          subst e5
          clear h0
          go_wp2_with fail
          all_goals go_ret
          all_goals exact ⟨rfl, HB4.out.alloc HB4.out.size _⟩
  · have hb' : bm = true := by simpa using hok
    subst hb'
    go_wp2_with fail
    all_goals go_ret
    all_goals exact ⟨rfl, HA0.out.bel⟩
end Go.Proofs.YtbjjgnaojoaoiaaGreat
