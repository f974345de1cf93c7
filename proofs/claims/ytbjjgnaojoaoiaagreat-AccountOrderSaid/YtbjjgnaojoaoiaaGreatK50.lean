/- AccountOrder: the walk. -/
import Derived.Test.YtbjjgnaojoaoiaaGreatK49
import Derived.Deep.RegionHeld3
import Derived.Deep.QuietTactic
import Derived.BigQuiet
namespace Go.Proofs.YtbjjgnaojoaoiaaGreat
open Go.RowKit Go
set_option linter.unusedVariables false
set_option linter.unusedSimpArgs false

theorem aheadZ_any (a b : Dq) (w : World) : Calls Tryz.prog 21 #[itV a, itV b] w fun e w' => e = .returned (.bool (aheadI a b)) ∧ Below w.heap.size w w' := by
  by_cases h1 : a.due = b.due
  · by_cases h2 : a.kind = b.kind
    · have H : Hid (aheadI a b = decide (a.per < b.per)) := Lib.hid (by unfold aheadI; rw [if_neg (by omega), if_neg (by omega)])
      have g1 : (a.due != b.due) = false := by simp [h1]
      have g2 : (a.kind != b.kind) = false := by simp [h2]
      clear h1 h2
      go_enter Tryz.func21, Tryz.ntmps21
      go_wp2_with fail
      go_ret
      exact ⟨ret_bool (by rw [H.out]), (by repeat' (first | (with_reducible exact Below.refl _ _) | (with_reducible refine Below.alloc ?_ ?_ _) | (with_reducible refine below_drewN ?_ _) | (with_reducible refine Below.drew ?_) | (with_reducible refine Below.setCell ?_ ?_ _) | (with_reducible refine Below.trans ?_ (Below.mono HW0.out ?_)) | (with_reducible refine Below.trans ?_ (Below.mono HW1.out ?_)) | (with_reducible refine Below.trans ?_ (Below.mono HW2.out ?_)) | (with_reducible refine Below.trans ?_ (Below.mono HW3.out ?_)) | (with_reducible refine Below.trans ?_ (Below.mono HW4.out ?_)) | (with_reducible refine Below.trans ?_ (Below.mono HW5.out ?_)) | (with_reducible refine Below.trans ?_ (Below.mono HW6.out ?_)) | (with_reducible refine Below.trans ?_ (Below.mono HW7.out ?_)) | (with_reducible exact Nat.le_refl _) | omega | (simp only [World.size_alloc, World.size_setCell, World.size_drew, size_drewN]; omega) | (simp; done) | (simp; omega)))⟩
    · have H : Hid (aheadI a b = decide (a.kind < b.kind)) := Lib.hid (by unfold aheadI; rw [if_neg (by omega), if_pos (by omega)])
      have g1 : (a.due != b.due) = false := by simp [h1]
      have g2 : (a.kind != b.kind) = true := by simp [h2]
      clear h1 h2
      go_enter Tryz.func21, Tryz.ntmps21
      go_wp2_with fail
      go_ret
      exact ⟨ret_bool (by rw [H.out]), (by repeat' (first | (with_reducible exact Below.refl _ _) | (with_reducible refine Below.alloc ?_ ?_ _) | (with_reducible refine below_drewN ?_ _) | (with_reducible refine Below.drew ?_) | (with_reducible refine Below.setCell ?_ ?_ _) | (with_reducible refine Below.trans ?_ (Below.mono HW0.out ?_)) | (with_reducible refine Below.trans ?_ (Below.mono HW1.out ?_)) | (with_reducible refine Below.trans ?_ (Below.mono HW2.out ?_)) | (with_reducible refine Below.trans ?_ (Below.mono HW3.out ?_)) | (with_reducible refine Below.trans ?_ (Below.mono HW4.out ?_)) | (with_reducible refine Below.trans ?_ (Below.mono HW5.out ?_)) | (with_reducible refine Below.trans ?_ (Below.mono HW6.out ?_)) | (with_reducible refine Below.trans ?_ (Below.mono HW7.out ?_)) | (with_reducible exact Nat.le_refl _) | omega | (simp only [World.size_alloc, World.size_setCell, World.size_drew, size_drewN]; omega) | (simp; done) | (simp; omega)))⟩
  · have H : Hid (aheadI a b = decide (a.due < b.due)) := Lib.hid (by unfold aheadI; rw [if_pos (by omega)])
    have g1 : (a.due != b.due) = true := by simp [h1]
    clear h1
    go_enter Tryz.func21, Tryz.ntmps21
    go_wp2_with fail
    go_ret
    exact ⟨ret_bool (by rw [H.out]), (by repeat' (first | (with_reducible exact Below.refl _ _) | (with_reducible refine Below.alloc ?_ ?_ _) | (with_reducible refine below_drewN ?_ _) | (with_reducible refine Below.drew ?_) | (with_reducible refine Below.setCell ?_ ?_ _) | (with_reducible refine Below.trans ?_ (Below.mono HW0.out ?_)) | (with_reducible refine Below.trans ?_ (Below.mono HW1.out ?_)) | (with_reducible refine Below.trans ?_ (Below.mono HW2.out ?_)) | (with_reducible refine Below.trans ?_ (Below.mono HW3.out ?_)) | (with_reducible refine Below.trans ?_ (Below.mono HW4.out ?_)) | (with_reducible refine Below.trans ?_ (Below.mono HW5.out ?_)) | (with_reducible refine Below.trans ?_ (Below.mono HW6.out ?_)) | (with_reducible refine Below.trans ?_ (Below.mono HW7.out ?_)) | (with_reducible exact Nat.le_refl _) | omega | (simp only [World.size_alloc, World.size_setCell, World.size_drew, size_drewN]; omega) | (simp; done) | (simp; omega)))⟩
set_option maxHeartbeats 6400000 in
set_option maxRecDepth 100000 in
theorem accountOrder_walk (A : Option Addr) (n c : Nat) (l : List Stp) (am : Int) (w : World) (h : RdS w A n l) (hm : n ≤ maxLen) :
    Calls Tryz.prog 4 #[.slice A n c, .int .i64 am] w fun e w' => e = .returned (.bool true) ∧ Below w.heap.size w w' := by
  have HR := Lib.hid h; have HM := Lib.hid hm
  unfold maxLen at hm
  have HN := Lib.hid h.len
  clear h
  go_enter Tryz.func4, Tryz.ntmps4
  go_wp2_with fail
  refine (wake_any w).mono ?_; rintro e w1 ⟨rfl, hb1⟩
  have HB1 := Lib.hid hb1
  have HMU := Lib.hid (much_any A n c l w1 (HR.out.below hb1) HM.out)
  clear hb1
  go_wp2_with fail
  refine HMU.out.mono ?_; rintro e w1' ⟨⟨bm, rfl⟩, rfl⟩
  clear HMU
  go_wp2_with fail
  refine (new_yes 738000 700 w1 (by decide) (by decide)).mono ?_; rintro e w2 ⟨rfl, ho2, hb2⟩
  have hg2 := ho2.lt
  have hgw : w.heap.size ≤ w1.heap.size := HB1.out.size
  obtain ⟨g, hg⟩ : ∃ g, w1.heap.size = g := ⟨_, rfl⟩
  rw [hg] at ho2 hg2 hgw ⊢
  have HA0 : Hid (AccZ w w2 g (Ac.new 738000 700)) := Lib.hid ⟨ho2.mono (Nat.zero_le _), Good.new (by decide) (by decide), HB1.out.trans (hb2.mono HB1.out.size)⟩
  clear ho2 hb2 hg HB1
  by_cases hok : bm = false ∧ (1 ≤ am ∧ am ≤ 1125899906842624)
  · obtain ⟨rfl, r1, r2⟩ := hok
    have d1 : decide (am < 1) = false := by simp; omega
    have d2 : decide (am > 1125899906842624) = false := by simp; omega
    go_upto_block 0 with fail
    go_cut [9] from 49 to 64 (fun v9 wc => ∃ S : Ac, AccZ w wc g S)
    case first =>
      go_wp2_with fail
      go_loopg [9] n (fun gh v9 wr => ∃ (k : Nat) (S : Ac), gh = n - k ∧ k ≤ n ∧ k ≤ 60 ∧ v9 = .int .i64 k ∧ AccZ w wr g S)
      case atStart => exact ⟨0, _, rfl, by omega, by omega, rfl, HA0.out⟩
      case round =>
        obtain ⟨k, S, hgk, hk, hk60, rfl, hinv⟩ := hrel
        have HG := Lib.hid hgk; have HV := Lib.hid hinv
        by_cases hlt : k < n
        · by_cases h60 : k < 60
          · have hkl : k < l.length := by have := HN.out; omega
            obtain ⟨b, off, rfl, hb, hst⟩ := (HR.out.below hinv.bel).at_ hkl
            have hbr := (HR.out.below hinv.bel).brs _ (List.getElem_mem hkl)
            generalize l[k] = t at *
            obtain ⟨c0, c1, c2, c3, c4, c5, c6, c7, c8, c9, c10, c11, c12, c13, c14⟩ := hst
            have HO := Lib.hid (ours_any g 0 S t wr hinv.own hinv.good hbr)
            have hd0 : decide ((k : Int) < 60) = true := by simp; omega
            have i1 : (0 : Int) ≤ (k : Int) := by omega
            have i2 : (k : Int) < (n : Int) := by omega
            have HST := Lib.hid (fun w' e (hd : DoesOf wr g S (stepS S t) e w') => hinv.step hgw hd (hinv.good.step t) step_same)
            clear hinv hgk hbr
            go_wp2_with fail
            refine HO.out.mono ?_; intro e w5 hd
            have HK := Lib.hid (HST.out w5 e hd)
            obtain ⟨m, er, rfl⟩ := hd.form
            clear hd HO HST
            go_wp2_with fail
            go_roundg (n - (k + 1))
            case measure => have := HG.out; omega
            case rel => exact ⟨k + 1, _, rfl, by omega, by omega, by go_num, HK.out⟩
          · have hd0 : decide ((k : Int) < 60) = false := by simp; omega
            clear hinv hgk
            go_wp2_with fail
            all_goals go_meet
            all_goals exact ⟨S, HV.out⟩
        · clear hinv hgk
          go_wp2_with fail
          all_goals go_meet
          all_goals exact ⟨S, HV.out⟩
    case rest =>
      obtain ⟨S, hinv⟩ := hcut
      have hG := hinv.good
      have HV := Lib.hid hinv; have HG := Lib.hid hG
      have HIT := Lib.hid (uitems_any g 0 S wc hinv.own hG)
      have hkey : ∀ its : List Dq, openS S.ps = its → (∀ (k : Nat) (hk : k < its.length), okI its[k] = true ∧ 1 ≤ its[k].opn) ∧ ∀ (k : Nat) (hk : k + 1 < its.length), keyI (its[k]'(by omega)) < keyI its[k + 1] := by
        rintro _ rfl
        exact ⟨fun k hk => openS_mem hG (List.getElem_mem hk), fun k hk => (List.pairwise_iff_getElem.1 (openS_rise hG)) k (k + 1) (by omega) hk (by omega)⟩
      have hlen200 : (openS S.ps).length ≤ 200 := (placesE_ok (openS_places hG.places)).1
      obtain ⟨its, hits⟩ : ∃ its, openS S.ps = its := ⟨_, rfl⟩
      obtain ⟨hos, hor⟩ := hkey its hits
      have HOS := Lib.hid hos; have HOR := Lib.hid hor
      obtain ⟨nn, hnn⟩ : ∃ nn, its.length = nn := ⟨_, rfl⟩
      unfold ItemsOut at HIT
      have HITS := Lib.hid hits
      rw [hits] at HIT hlen200
      rw [hnn] at HIT hlen200
      have HNN := Lib.hid hnn
      clear hinv hG hits hnn hkey hos hor
      go_wp2_with fail
      refine HIT.out.mono ?_; rintro e w3 ⟨Ai, ci, rfl, ho3, hb3⟩
      have HRI := Lib.hid (own_mono ho3 (Nat.zero_le _))
      have HA3 := Lib.hid (HV.out.below hb3)
      clear ho3 hb3 HIT HV
      go_wp2_with fail
      go_loopg [11] nn (fun gh v11 wr => ∃ k : Nat, gh = nn - k ∧ k ≤ nn ∧ v11 = .int .i64 k ∧ AccZ w wr g S ∧ wr.ownsRow 0 58 4 (.slice Ai nn ci) nn (itCs its))
      case atStart => exact ⟨0, rfl, by omega, rfl, HA3.out, HRI.out⟩
      case round =>
        obtain ⟨k, hgk, hk, rfl, hacc, hrd⟩ := hrel
        have HGH := Lib.hid hgk; have HAC := Lib.hid hacc; have HOW := Lib.hid hrd; have HRD := Lib.hid (Rd.of_own hrd)
        clear hgk hacc hrd
        by_cases hlt : k < nn
        · have hkl : k < its.length := by have := HNN.out; omega
          have i1 : (0 : Int) ≤ (k : Int) := by omega
          have i2 : (k : Int) < (nn : Int) := by omega
          by_cases hk0 : k = 0
          · have e0 : decide ((k : Int) > 0) = false := by simp; omega
            have e00 : decide (0 < k) = false := by simp; omega
            have e000 : ¬ 0 < k := by omega
            obtain ⟨b, off, rfl, hb, c0, c1, c2, c3⟩ := HRD.out.it hkl
            have hop := (HOS.out k hkl).2
            generalize its[k] = x at *
            have e1 : decide (x.opn < 1) = false := by simp; omega
            clear hk0 c0 c1 c2
            go_wp2_with fail
            go_quiet (fail)
            have hbq : Below wr.heap.size wr (wr.drewN nq) := below_drewN (Below.refl _ _) _
            have HA4 := Lib.hid (HAC.out.below hbq)
            have HR4 := Lib.hid (own_below HOW.out hbq)
            clear hbq c3
            go_wp2_with fail
            go_roundg (nn - (k + 1))
            case measure => have := HGH.out; omega
            case rel => exact ⟨k + 1, rfl, by omega, by go_num, HA4.out, HR4.out⟩
          · have e0 : decide ((k : Int) > 0) = true := by simp; omega
            have e00 : decide (0 < k) = true := by simp; omega
            obtain ⟨j, hjk⟩ : ∃ j, j + 1 = k := ⟨k - 1, by omega⟩
            have hjl : j < its.length := by omega
            obtain ⟨b, off, rfl, hb, c0, c1, c2, c3⟩ := HRD.out.it hkl
            obtain ⟨y0, y1, y2, y3⟩ := HRD.out.it2 hjl
            have hop := (HOS.out k hkl).2
            have hah : aheadI its[j] its[k] = true := by
              rw [aheadI_key (HOS.out j hjl).1 (HOS.out k hkl).1]
              subst hjk
              simpa using HOR.out j hkl
            have HAH := Lib.hid (fun wx => aheadZ_any its[j] its[k] wx)
            rw [hah] at HAH
            generalize its[k] = x at *
            generalize its[j] = y at *
            have e1 : decide (x.opn < 1) = false := by simp; omega
            have hwj : IntKind.i64.wrap ((k : Int) - 1) = (j : Int) := by rw [IntWalk.i64_in _ (by omega)]; omega
            have i3 : (0 : Int) ≤ (j : Int) := by omega
            have i4 : (j : Int) < (nn : Int) := by omega
            have hcB := fun (a : Addr) (hp : a.block < wr.heap.size) => (rfl : wr.cell? a = wr.cell? a)
            clear hk0 hah hjk
            go_wp2_with fail
            go_region_held3 (fun w' => w'.cell? ⟨b, off + k * 4, none⟩ = some (.int .i64 x.due) ∧ w'.cell? ⟨b, off + k * 4 + 1, none⟩ = some (.int .i64 x.kind) ∧ w'.cell? ⟨b, off + k * 4 + 2, none⟩ = some (.int .i64 x.per) ∧ w'.cell? ⟨b, off + k * 4 + 3, none⟩ = some (.int .i64 x.opn) ∧
                w'.cell? ⟨b, off + j * 4, none⟩ = some (.int .i64 y.due) ∧ w'.cell? ⟨b, off + j * 4 + 1, none⟩ = some (.int .i64 y.kind) ∧ w'.cell? ⟨b, off + j * 4 + 2, none⟩ = some (.int .i64 y.per) ∧ w'.cell? ⟨b, off + j * 4 + 3, none⟩ = some (.int .i64 y.opn))
              ((first | (with_reducible exact ⟨c0, c1, c2, c3, y0, y1, y2, y3⟩) | exact ⟨c0, c1, c2, c3, y0, y1, y2, y3⟩ | exact ⟨(hcB _ hb).trans c0, (hcB _ hb).trans c1, (hcB _ hb).trans c2, (hcB _ hb).trans c3, (hcB _ hb).trans y0, (hcB _ hb).trans y1, (hcB _ hb).trans y2, (hcB _ hb).trans y3⟩))
              ((go_at_call 21; refine (HAH.out wr.drew).mono ?_; rintro e w4 ⟨rfl, hw4⟩; have hcB := fun (a : Addr) (hp : a.block < wr.heap.size) => hw4.cell hp; have HW4 : Hid (Below wr.heap.size wr w4) := Lib.hid (below_drewA hw4); clear hw4))
            have HA4 := Lib.hid (HAC.out.below HW4.out)
            have HR4 := Lib.hid (own_below HOW.out HW4.out)
            clear hcB c0 c1 c2 c3 y0 y1 y2 y3
            all_goals go_wp2_with fail
            all_goals go_roundg (nn - (k + 1))
            case measure => have := HGH.out; omega
            case rel => exact ⟨k + 1, rfl, by omega, by go_num, HA4.out, HR4.out⟩
        · have hkn : k = nn := by omega
          subst hkn
          have hacc := HAC.out
          have hG := hacc.good
          have HPY := Lib.hid (pay_any0 g 0 S 1099511627776 am wr hacc.own hG)
          have HST := Lib.hid (fun w' e (hd : DoesOf wr g S (payS S 1099511627776 am) e w') => hacc.step hgw hd (hG.pay _ _) pay_same)
          clear hacc
          go_wp2_with fail
          refine HPY.out.mono ?_; intro e w4 hd4
          have ha4 := HST.out w4 e hd4
          by_cases h0 : (payS S 1099511627776 am).2.2 = 0
          · have h1 := hd4.good h0
            have hop := order_pays hG r1 h0
            have hG4 := hG.pay 1099511627776 am
            obtain ⟨S4, hS4⟩ : ∃ S4, (payS S 1099511627776 am).1 = S4 := ⟨_, rfl⟩
            obtain ⟨m, hm4⟩ : ∃ m, (payS S 1099511627776 am).2.1 = m := ⟨_, rfl⟩
            rw [hm4] at h1
            rw [hS4] at ha4 hop hG4
            rw [HITS.out] at hop
            subst h1
            obtain ⟨m0, m1, m2, m3, m4, m5⟩ := m
            have hlen4 : (openS S4.ps).length ≤ 200 := (placesE_ok (openS_places hG4.places)).1
            have hrd4 : w4.ownsRow 0 58 4 (.slice Ai k ci) k (itCs its) := own_keep HOW.out (fun b cs hb => hd4.1.block b (blk_lt hb) (fun e => by
              obtain ⟨vp, vq, hcell⟩ := HAC.out.own.cell
              have e' : b = g := Option.some.inj e
              subst e'
              exact ne_of_type' hcell hb (by decide) rfl))
            have hbn := bnewU w4 (.cells #[.int .i64 m0, .int .i64 m1, .int .i64 m2, .int .i64 m3, .int .i64 m4, .int .i64 m5] 33)
            have hacc4 := ha4.below hbn
            have hox := own_below hrd4 hbn
            clear hd4 ha4 hrd4 HST HPY hS4 hm4 hbn
            go_upto_region 17 with fail
            generalize w4.alloc (.cells #[.int .i64 m0, .int .i64 m1, .int .i64 m2, .int .i64 m3, .int .i64 m4, .int .i64 m5] 33) = X at *
            have HIT2 := Lib.hid (uitems_any g 0 S4 X hacc4.own hG4)
            obtain ⟨now, hnow⟩ : ∃ now, openS S4.ps = now := ⟨_, rfl⟩
            unfold ItemsOut at HIT2
            rw [hnow] at HIT2 hop hlen4
            obtain ⟨mm, hmm⟩ : ∃ mm, now.length = mm := ⟨_, rfl⟩
            rw [hmm] at HIT2 hlen4
            have HOP := Lib.hid hop; have HMM := Lib.hid hmm; have HA4 := Lib.hid hacc4; have HOX := Lib.hid hox
            clear hop hmm hacc4 hox hnow hG4 h0
            go_wp2_with fail
            refine HIT2.out.mono ?_; rintro e w5 ⟨A2, c2, rfl, ho5, hb5⟩
            have HO5 := Lib.hid (own_mono ho5 (Nat.zero_le _))
            have HI5 := Lib.hid (own_below HOX.out hb5)
            have HB5 := Lib.hid (HA4.out.bel.trans (hb5.mono HA4.out.bel.size))
            clear ho5 hb5 HIT2 HA4 HOX
            go_wp2_with fail
            go_loopg [14, 16, 17] k (fun gh v14 v16 v17 wr => ∃ (i kk : Nat) (left : Int), gh = k - i ∧ i ≤ k ∧ v17 = .int .i64 i ∧ v16 = .int .i64 kk ∧ v14 = .int .i64 left ∧ (0 ≤ left ∧ left ≤ am) ∧ kk ≤ mm ∧ walkO left (its.drop i) = now.drop kk ∧ wr.ownsRow 0 58 4 (.slice Ai k ci) k (itCs its) ∧ wr.ownsRow 0 58 4 (.slice A2 mm c2) mm (itCs now) ∧ Below w.heap.size w wr)
            case atStart => exact ⟨0, 0, am, rfl, by omega, rfl, rfl, rfl, ⟨by omega, by omega⟩, by omega, HOP.out.symm, HI5.out, HO5.out, HB5.out⟩
            case round =>
              obtain ⟨i, kk, left, hgk, hik, rfl, rfl, rfl, hlb, hkm, hwk, hoi, hon, hbw⟩ := hrel
              have HGI := Lib.hid hgk; have HOI := Lib.hid hoi; have HON := Lib.hid hon; have HBW := Lib.hid hbw
              clear hgk hoi hon hbw
              by_cases hlt : i < k
              · have hil : i < its.length := by have := HNN.out; omega
                have hd : its.drop i = its[i] :: its.drop (i + 1) := List.drop_eq_getElem_cons hil
                rw [hd] at hwk
                obtain ⟨b, off, rfl, hb, c0, c1, c2', c3⟩ := (Rd.of_own HOI.out).it hil
                have hxb := okI_yes (HOS.out i hil).1
                generalize its[i] = x at *
                obtain ⟨p, hmin⟩ : ∃ p, min left x.opn = p := ⟨_, rfl⟩
                have hpb : 0 ≤ p ∧ p ≤ left ∧ p ≤ x.opn := by omega
                obtain ⟨lf, hlf⟩ : ∃ lf, left - p = lf := ⟨_, rfl⟩
                obtain ⟨rs, hrs⟩ : ∃ rs, x.opn - p = rs := ⟨_, rfl⟩
                have hw1 : IntKind.i64.wrap (left - p) = lf := by rw [hlf]; exact IntWalk.i64_in _ (by omega)
                have hw2 : IntKind.i64.wrap (x.opn - p) = rs := by rw [hrs]; exact IntWalk.i64_in _ (by omega)
                have hwk2 : (if rs = 0 then walkO lf (its.drop (i + 1)) else { x with opn := rs } :: walkO lf (its.drop (i + 1))) = now.drop kk := by
                  rw [← hwk, walkO, hmin, hlf, hrs]
                have hlfb : 0 ≤ lf ∧ lf ≤ am := by omega
                have i1 : (0 : Int) ≤ (i : Int) := by omega
                have i2 : (i : Int) < (k : Int) := by omega
                have hbx : Below wr.heap.size wr (wr.alloc (.cells #[.int .i64 x.due, .int .i64 x.kind, .int .i64 x.per, .int .i64 rs] 58)) := (Below.refl _ _).alloc (Nat.le_refl _) _
                have HBX := Lib.hid hbx
                clear hwk hlf hrs hd hbx
                by_cases hz : rs = 0
                · rw [if_pos hz] at hwk2
                  have hz' : (rs == 0) = true := by simpa using hz
                  have HWK := Lib.hid hwk2
                  clear hwk2 hz
                  go_wp2_with fail
                  go_roundg (k - (i + 1))
                  case measure => have := HGI.out; omega
                  case rel => exact ⟨i + 1, kk, lf, rfl, by omega, by go_num, rfl, rfl, hlfb, hkm, HWK.out, own_below HOI.out HBX.out, own_below HON.out HBX.out, HBW.out.trans (HBX.out.mono HBW.out.size)⟩
                · rw [if_neg hz] at hwk2
                  have hz' : (rs == 0) = false := by simpa using hz
                  have hkl : kk < now.length := by
                    rcases Nat.lt_or_ge kk now.length with h | h
                    · exact h
                    · rw [List.drop_of_length_le h] at hwk2; cases hwk2
                  rw [List.drop_eq_getElem_cons hkl] at hwk2
                  injection hwk2 with hk1 hk2
                  obtain ⟨b2, off2, rfl, hb2, y0, y1, y2, y3⟩ := (Rd.of_own HON.out).it hkl
                  rw [← hk1] at y0 y1 y2 y3
                  simp only at y0 y1 y2 y3
                  have hkm2 : kk < mm := by have := HMM.out; omega
                  have HWK := Lib.hid hk2
                  have hfx : (wr.alloc (.cells #[.int .i64 x.due, .int .i64 x.kind, .int .i64 x.per, .int .i64 rs] 58)).heap[wr.heap.size]? = some (.cells #[.int .i64 x.due, .int .i64 x.kind, .int .i64 x.per, .int .i64 rs] 58 (0, 0)) := blk_new wr _ rfl
                  have HFX := Lib.hid hfx
                  have j1 : (0 : Int) ≤ (kk : Int) := by omega
                  have j2 : (kk : Int) < (mm : Int) := by omega
                  have j3 : decide ((kk : Int) ≥ (mm : Int)) = false := by simp; omega
                  have j4 : decide (mm ≤ kk) = false := by simp; omega
                  have Y0 := Lib.hid y0; have Y1 := Lib.hid y1; have Y2 := Lib.hid y2; have Y3 := Lib.hid y3
                  clear hk1 hk2 hz hfx y0 y1 y2 y3
                  go_upto_region 30 with fail
                  obtain ⟨gx, hgx⟩ : ∃ gx, wr.heap.size = gx := ⟨_, rfl⟩
                  have hfx := HFX.out
                  have hbx := HBX.out
                  have y0 := cells_below hbx hb2 Y0.out; have y1 := cells_below hbx hb2 Y1.out; have y2 := cells_below hbx hb2 Y2.out; have y3 := cells_below hbx hb2 Y3.out
                  have hoi := own_below HOI.out hbx
                  have hon := own_below HON.out hbx
                  have hbw := HBW.out.trans (hbx.mono HBW.out.size)
                  rw [hgx] at hfx ⊢
                  clear HFX HBX HOI HON HBW Y0 Y1 Y2 Y3 c0 c1 c2' c3
                  simp only [hgx] at hfx hbx y0 y1 y2 y3 hoi hon hbw
                  generalize wr.alloc (.cells #[.int .i64 x.due, .int .i64 x.kind, .int .i64 x.per, .int .i64 rs] 58) = Z at *
                  obtain ⟨z0, z1, z2, z3, z4⟩ := cells4G hfx
                  have hzl := blk_lt hfx
                  have HOI := Lib.hid hoi; have HON := Lib.hid hon; have HBW := Lib.hid hbw
                  clear hoi hon hbw hfx hbx
                  go_quiet (fail)
                  have hbq : Below Z.heap.size Z (Z.drewN nq) := below_drewN (Below.refl _ _) _
                  have HBQ := Lib.hid hbq
                  clear hbq z0 z1 z2 z3 z4 y0 y1 y2 y3
                  go_wp2_with fail
                  go_roundg (k - (i + 1))
                  case measure => have := HGI.out; omega
                  case rel => exact ⟨i + 1, kk + 1, lf, rfl, by omega, by go_num, by go_num, rfl, hlfb, by omega, HWK.out, own_below HOI.out HBQ.out, own_below HON.out HBQ.out, HBW.out.trans (HBQ.out.mono HBW.out.size)⟩
              · have hin : its.drop i = [] := List.drop_of_length_le (by have := HNN.out; omega)
                rw [hin] at hwk
                have hkk : kk = mm := by
                  have h1 : (now.drop kk).length = 0 := by rw [← hwk]; rfl
                  rw [List.length_drop] at h1
                  have := HMM.out; omega
                subst hkk
                clear hwk hin
                go_wp2_with fail
                all_goals go_ret
                all_goals exact ⟨rfl, HBW.out⟩
          · have h1 := hd4.bad h0
            rcases pay_errs S (id := 1099511627776) (a := am) (by decide) ⟨r1, r2⟩ with e5 | e5 | e5
            · exact absurd e5 h0
            · rw [e5] at h1
              subst h1
              have HB4 := Lib.hid ha4.bel
              clear hd4 ha4 HST HPY h0 e5
              go_wp2_with fail
              all_goals go_ret
              all_goals exact ⟨rfl, HB4.out.alloc HB4.out.size _⟩
            · rw [e5] at h1
              subst h1
              have HB4 := Lib.hid ha4.bel
              clear hd4 ha4 HST HPY h0 e5
              go_wp2_with fail
              all_goals go_ret
              all_goals exact ⟨rfl, HB4.out.alloc HB4.out.size _⟩
  · by_cases hb : bm = true
    · subst hb
      go_wp2_with fail
      all_goals go_ret
      all_goals exact ⟨rfl, HA0.out.bel⟩
    · have hb' : bm = false := by simpa using hb
      subst hb'
      by_cases q1 : am < 1
      · have d1 : decide (am < 1) = true := by simpa using q1
        clear hok
        go_wp2_with fail
        all_goals go_ret
        all_goals exact ⟨rfl, HA0.out.bel⟩
      have d1 : decide (am < 1) = false := by simpa using q1
      by_cases q2 : 1125899906842624 < am
      · have d2 : decide (am > 1125899906842624) = true := by simpa using q2
        clear hok
        go_wp2_with fail
        all_goals go_ret
        all_goals exact ⟨rfl, HA0.out.bel⟩
      exact absurd ⟨rfl, by omega, by omega⟩ hok
end Go.Proofs.YtbjjgnaojoaoiaaGreat
