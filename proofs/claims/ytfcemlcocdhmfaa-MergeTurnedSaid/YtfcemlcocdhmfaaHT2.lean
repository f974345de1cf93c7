/- The reference's two lists in one. -/
import Derived.Test.YtfcemlcocdhmfaaHT1
namespace Go.Proofs.Ytfcemlcocdhmfaa
open Go.RowKit Go
set_option linter.unusedVariables false
set_option linter.unusedSimpArgs false
theorem isRc_up {w w' : World} {v : Value} {r : Rc} (h : IsRc w w.heap.size v r) (hb : Below w.heap.size w w') : IsRc w' w'.heap.size v r := by
  obtain ⟨kv, vv, e, h1, h2⟩ := h; exact ⟨kv, vv, e, h1.up hb, h2.up hb⟩
set_option maxHeartbeats 40000000 in
set_option maxRecDepth 100000 in
theorem two_any (va vb : Value) (xs bs : List El) (w : World) (ha : RowB w va xs) (hb : RowB w vb bs) (hla : xs.length ≤ 1000000000) (hlb : bs.length ≤ 1000000000) :
    Calls Try.prog 27 #[va, vb] w fun e w' => (∃ v, e = .returned v ∧ OutB w' w.heap.size v (two oE xs bs)) ∧ Below w.heap.size w w' := by
  obtain ⟨A, ca, rfl⟩ := ha.form
  obtain ⟨A', cb, rfl⟩ := hb.form
  have HA0 := Lib.hid ha; have HB0 := Lib.hid hb
  obtain ⟨na, hna⟩ : ∃ n, xs.length = n := ⟨_, rfl⟩
  obtain ⟨nb, hnb⟩ : ∃ n, bs.length = n := ⟨_, rfl⟩
  have HNA := Lib.hid hna; have HNB := Lib.hid hnb
  rw [hna] at HA0 hla; rw [hnb] at HB0 hlb
  rw [hna, hnb]
  clear ha hb hna hnb
  go_enter Try.func27, Try.ntmps27
  go_wp2_with fail
  go_loopg [5, 6, 7] (na + nb) (fun q vo vi vk wr => ∃ (i k : Nat) (os : List El), q = (na - i) + (nb - k) ∧ i ≤ na ∧ k ≤ nb ∧ vi = .int .i64 i ∧ vk = .int .i64 k ∧ os ++ two oE (xs.drop i) (bs.drop k) = two oE xs bs ∧ os.length ≤ i + k ∧ OutB wr w.heap.size vo os ∧ Below w.heap.size w wr)
  case atStart => exact ⟨0, 0, [], by omega, by omega, by omega, rfl, rfl, rfl, by simp, OutB.nil _ _, Below.refl _ _⟩
  case round =>
    obtain ⟨i, k, os, hq, hi, hk, rfl, rfl, hos, hol, how, hbw⟩ := hrel
    have HQ := Lib.hid hq; have HOS := Lib.hid hos; have HOL := Lib.hid hol; have HOW := Lib.hid how; have HBW := Lib.hid hbw
    have HUA := Lib.hid (HA0.out.up hbw); have HUB := Lib.hid (HB0.out.up hbw)
    obtain ⟨Ao, co, rfl⟩ := how.form
    clear hq hos hol how hbw
    have j1 : (0 : Int) ≤ (i : Int) := by omega
    have j2 : (0 : Int) ≤ (k : Int) := by omega
    by_cases h1 : i < na
    · have hia : i < xs.length := by rw [HNA.out]; exact h1
      have j3 : (i : Int) < (na : Int) := by omega
      have g1 : ¬ ((i : Int) = (na : Int)) := by omega
      by_cases h2 : k < nb
      · have hib : k < bs.length := by rw [HNB.out]; exact h2
        have j4 : (k : Int) < (nb : Int) := by omega
        have g2 : ¬ ((k : Int) = (nb : Int)) := by omega
        have g3 : ((k : Int) == (nb : Int)) = false := by simp; omega
        have g4 : ((i : Int) == (na : Int)) = false := by simp; omega
        have g5 : decide ((i : Int) < (na : Int)) = true := by simp; omega
        obtain ⟨ba, fa, Ka, ka, Va, va, ra, ea, hba, Ea, a0, a1, a2, a3, ak, av⟩ := HUA.out.pick hia
        subst ea
        have DA : Hid (xs.drop i = elOf Ka ka Va va ra :: xs.drop (i + 1)) := Lib.hid (by rw [drop_at hia, Ea])
        have ISA : Hid (IsRc wr wr.heap.size (.agg (elRow Ka ka Va va ra)) ra) := Lib.hid ⟨_, _, rfl, ak, av⟩
        clear Ea ak av
        obtain ⟨bb, fb, Kb, kb, Vb, vb, rb, eb, hbb, Eb, b0, b1, b2, b3, bk, bv⟩ := HUB.out.pick hib
        subst eb
        have DB : Hid (bs.drop k = elOf Kb kb Vb vb rb :: bs.drop (k + 1)) := Lib.hid (by rw [drop_at hib, Eb])
        have ISB : Hid (IsRc wr wr.heap.size (.agg (elRow Kb kb Vb vb rb)) rb) := Lib.hid ⟨_, _, rfl, bk, bv⟩
        clear Eb bk bv
        go_wp2_with fail
        go_cut [29] from 30 to 50 (fun v29 wz => v29 = .bool (decide (ord2 ra rb < 0)) ∧ Below wr.heap.size wr wz)
        case first =>
          go_region_held3 (fun w' => w'.cell? ⟨ba, fa + i * 4, none⟩ = some (.slice Ka ra.key.length ka) ∧ w'.cell? ⟨ba, fa + i * 4 + 1, none⟩ = some (.int .i64 ra.seq) ∧ w'.cell? ⟨ba, fa + i * 4 + 2, none⟩ = some (.bool ra.del) ∧ w'.cell? ⟨ba, fa + i * 4 + 3, none⟩ = some (.slice Va ra.val.length va) ∧ w'.cell? ⟨bb, fb + k * 4, none⟩ = some (.slice Kb rb.key.length kb) ∧ w'.cell? ⟨bb, fb + k * 4 + 1, none⟩ = some (.int .i64 rb.seq) ∧ w'.cell? ⟨bb, fb + k * 4 + 2, none⟩ = some (.bool rb.del) ∧ w'.cell? ⟨bb, fb + k * 4 + 3, none⟩ = some (.slice Vb rb.val.length vb))
            ((first | (with_reducible exact ⟨a0, a1, a2, a3, b0, b1, b2, b3⟩) | exact ⟨a0, a1, a2, a3, b0, b1, b2, b3⟩ | exact ⟨(hcB _ hba).trans a0, (hcB _ hba).trans a1, (hcB _ hba).trans a2, (hcB _ hba).trans a3, (hcB _ hbb).trans b0, (hcB _ hbb).trans b1, (hcB _ hbb).trans b2, (hcB _ hbb).trans b3⟩))
            ((first
                | (go_at_call 29; refine (ahead_any ra rb _ _ (wr).drew (ISA.out) (ISB.out)).mono ?_; rintro e w2 ⟨rfl, hw2⟩; have HW2 : Hid (Below (wr).heap.size (wr) w2) := Lib.hid ((Below.refl _ _).drew.trans hw2); have hcB := fun (p : Addr) (hp : p.block < (wr).heap.size) => HW2.out.cell hp; clear hw2)))
          all_goals go_wp2_with fail
          all_goals go_meet
          all_goals exact ⟨rfl, HW2.out⟩
        case rest =>
          obtain ⟨rfl, hbz⟩ := hcut
          have hwz := hbz.size
          have HOY := Lib.hid (HOW.out.below hbz); have HBY := Lib.hid (HBW.out.trans (hbz.mono HBW.out.size))
          have ISAY := Lib.hid (isRc_up ISA.out hbz); have ISBY := Lib.hid (isRc_up ISB.out hbz)
          obtain ⟨a0, a1, a2, a3⟩ : _ ∧ _ ∧ _ ∧ _ := ⟨(hbz.cell hba).trans a0, (hbz.cell hba).trans a1, (hbz.cell hba).trans a2, (hbz.cell hba).trans a3⟩
          obtain ⟨b0, b1, b2, b3⟩ : _ ∧ _ ∧ _ ∧ _ := ⟨(hbz.cell hbb).trans b0, (hbz.cell hbb).trans b1, (hbz.cell hbb).trans b2, (hbz.cell hbb).trans b3⟩
          have hba := Nat.lt_of_lt_of_le hba hbz.size
          have hbb := Nat.lt_of_lt_of_le hbb hbz.size
          clear hbz hwz
          have hdec : ord2 ra rb < 0 ∨ ¬ ord2 ra rb < 0 := Decidable.em _
          rcases hdec with hd | hd
          · have HD := Lib.hid hd
            rw [decide_eq_true hd]
            clear hd
            go_upto_if 29 with fail
            go_wp2_with (at_builtin; go_loud (refine app_el rfl (.tmp 51) (.tmp 56) rfl w (wc) w.heap.size _ os Ka ka Va va ra rfl rfl HOY.out HBY.out (Nat.le_refl _) (by have := HOL.out; omega) ?_); intro v4 w4 hO4 hB4
                         have HO4 := Lib.hid hO4; have HB4 := Lib.hid hB4
                         clear hO4 hB4)
            go_roundg ((na - (i + 1)) + (nb - (k)))
            case measure => have := HQ.out; omega
            case rel => exact ⟨i + 1, k, os ++ [elOf Ka ka Va va ra], rfl, by omega, by omega, by go_num, by go_num, by rw [← HOS.out, List.append_assoc]; congr 1; rw [DA.out, DB.out, two, if_pos (show oE (elOf Ka ka Va va ra) (elOf Kb kb Vb vb rb) < 0 from HD.out)]; rfl, by have := HOL.out; simp; omega, HO4.out, HB4.out⟩
          · have HD := Lib.hid hd
            rw [decide_eq_false hd]
            clear hd
            go_upto_region 11 with fail
            go_cut [60] from 61 to 75 (fun v60 wy => v60 = .bool (decide (ord2 rb ra < 0)) ∧ Below wc.heap.size wc wy)
            case first =>
              go_region_held3 (fun w' => w'.cell? ⟨bb, fb + k * 4, none⟩ = some (.slice Kb rb.key.length kb) ∧ w'.cell? ⟨bb, fb + k * 4 + 1, none⟩ = some (.int .i64 rb.seq) ∧ w'.cell? ⟨bb, fb + k * 4 + 2, none⟩ = some (.bool rb.del) ∧ w'.cell? ⟨bb, fb + k * 4 + 3, none⟩ = some (.slice Vb rb.val.length vb) ∧ w'.cell? ⟨ba, fa + i * 4, none⟩ = some (.slice Ka ra.key.length ka) ∧ w'.cell? ⟨ba, fa + i * 4 + 1, none⟩ = some (.int .i64 ra.seq) ∧ w'.cell? ⟨ba, fa + i * 4 + 2, none⟩ = some (.bool ra.del) ∧ w'.cell? ⟨ba, fa + i * 4 + 3, none⟩ = some (.slice Va ra.val.length va))
                ((first | (with_reducible exact ⟨b0, b1, b2, b3, a0, a1, a2, a3⟩) | exact ⟨b0, b1, b2, b3, a0, a1, a2, a3⟩ | exact ⟨(hcB _ hbb).trans b0, (hcB _ hbb).trans b1, (hcB _ hbb).trans b2, (hcB _ hbb).trans b3, (hcB _ hba).trans a0, (hcB _ hba).trans a1, (hcB _ hba).trans a2, (hcB _ hba).trans a3⟩))
                ((first
                    | (go_at_call 29; refine (ahead_any rb ra _ _ (wc).drew (ISBY.out) (ISAY.out)).mono ?_; rintro e w2 ⟨rfl, hw2⟩; have HW2 : Hid (Below (wc).heap.size (wc) w2) := Lib.hid ((Below.refl _ _).drew.trans hw2); have hcB := fun (p : Addr) (hp : p.block < (wc).heap.size) => HW2.out.cell hp; clear hw2)))
              all_goals go_wp2_with fail
              all_goals go_meet
              all_goals exact ⟨rfl, HW2.out⟩
            case rest =>
              obtain ⟨rfl, hbz⟩ := hcut
              have HOZ := Lib.hid (HOY.out.below hbz); have HBZ := Lib.hid (HBY.out.trans (hbz.mono HBY.out.size))
              obtain ⟨a0, a1, a2, a3⟩ : _ ∧ _ ∧ _ ∧ _ := ⟨(hbz.cell hba).trans a0, (hbz.cell hba).trans a1, (hbz.cell hba).trans a2, (hbz.cell hba).trans a3⟩
              obtain ⟨b0, b1, b2, b3⟩ : _ ∧ _ ∧ _ ∧ _ := ⟨(hbz.cell hbb).trans b0, (hbz.cell hbb).trans b1, (hbz.cell hbb).trans b2, (hbz.cell hbb).trans b3⟩
              clear hbz
              have hdec : ord2 rb ra < 0 ∨ ¬ ord2 rb ra < 0 := Decidable.em _
              rcases hdec with hd | hd
              · have HE := Lib.hid hd
                rw [decide_eq_true hd]
                clear hd
                go_upto_if 60 with fail
                go_wp2_with (at_builtin; go_loud (refine app_el rfl (.tmp 76) (.tmp 81) rfl w (wc) w.heap.size _ os Kb kb Vb vb rb rfl rfl HOZ.out HBZ.out (Nat.le_refl _) (by have := HOL.out; omega) ?_); intro v4 w4 hO4 hB4
                             have HO4 := Lib.hid hO4; have HB4 := Lib.hid hB4
                             clear hO4 hB4)
                go_roundg ((na - (i)) + (nb - (k + 1)))
                case measure => have := HQ.out; omega
                case rel => exact ⟨i, k + 1, os ++ [elOf Kb kb Vb vb rb], rfl, by omega, by omega, by go_num, by go_num, by rw [← HOS.out, List.append_assoc]; congr 1; rw [DA.out, DB.out, two, if_neg (show ¬ oE (elOf Ka ka Va va ra) (elOf Kb kb Vb vb rb) < 0 from (show ¬ ord2 ra rb < 0 by have := HD.out; omega)), if_pos (show oE (elOf Kb kb Vb vb rb) (elOf Ka ka Va va ra) < 0 from HE.out)]; rfl, by have := HOL.out; simp; omega, HO4.out, HB4.out⟩
              · have HE := Lib.hid hd
                rw [decide_eq_false hd]
                clear hd
                go_upto_if 60 with fail
                go_wp2_with (at_builtin; go_loud (refine app_el rfl (.tmp 18) (.tmp 23) rfl w (wc) w.heap.size _ os Ka ka Va va ra rfl rfl HOZ.out HBZ.out (Nat.le_refl _) (by have := HOL.out; omega) ?_); intro v4 w4 hO4 hB4
                             have HO4 := Lib.hid hO4; have HB4 := Lib.hid hB4
                             clear hO4 hB4)
                go_roundg ((na - (i + 1)) + (nb - (k + 1)))
                case measure => have := HQ.out; omega
                case rel => exact ⟨i + 1, k + 1, os ++ [elOf Ka ka Va va ra], rfl, by omega, by omega, by go_num, by go_num, by rw [← HOS.out, List.append_assoc]; congr 1; rw [DA.out, DB.out, two, if_neg (show ¬ oE (elOf Ka ka Va va ra) (elOf Kb kb Vb vb rb) < 0 from (show ¬ ord2 ra rb < 0 by have := HD.out; omega)), if_neg (show ¬ oE (elOf Kb kb Vb vb rb) (elOf Ka ka Va va ra) < 0 from (show ¬ ord2 rb ra < 0 by have := HE.out; omega))]; rfl, by have := HOL.out; simp; omega, HO4.out, HB4.out⟩
      · have h2' : k = nb := by omega
        subst h2'
        obtain ⟨ba, fa, Ka, ka, Va, va, ra, ea, hba, Ea, a0, a1, a2, a3, ak, av⟩ := HUA.out.pick hia
        subst ea
        have DA : Hid (xs.drop i = elOf Ka ka Va va ra :: xs.drop (i + 1)) := Lib.hid (by rw [drop_at hia, Ea])
        have ISA : Hid (IsRc wr wr.heap.size (.agg (elRow Ka ka Va va ra)) ra) := Lib.hid ⟨_, _, rfl, ak, av⟩
        clear Ea ak av
        go_wp2_with fail
        go_quiet (fail)
        have HOD := Lib.hid (HOW.out.drewN nq); have HBD := Lib.hid (below_drewN HBW.out nq)
        go_wp2_with (at_builtin; go_loud (refine app_el rfl (.tmp 51) (.tmp 56) rfl w (wr.drewN nq) w.heap.size _ os Ka ka Va va ra rfl rfl HOD.out HBD.out (Nat.le_refl _) (by have := HOL.out; omega) ?_); intro v4 w4 hO4 hB4
                     have HO4 := Lib.hid hO4; have HB4 := Lib.hid hB4
                     clear hO4 hB4)
        go_roundg ((na - (i + 1)) + (k - (k)))
        case measure => have := HQ.out; omega
        case rel => exact ⟨i + 1, k, os ++ [elOf Ka ka Va va ra], rfl, by omega, by omega, by go_num, by go_num, by rw [← HOS.out, List.append_assoc]; congr 1; rw [List.drop_of_length_le (i := k) (by rw [HNB.out]; exact Nat.le_refl _), two_nilr, two_nilr, DA.out]; rfl, by have := HOL.out; simp; omega, HO4.out, HB4.out⟩
    · have h1' : i = na := by omega
      subst h1'
      have n1 : ¬ ((i : Int) < (i : Int)) := by omega
      by_cases h2 : k < nb
      · have hib : k < bs.length := by rw [HNB.out]; exact h2
        have j4 : (k : Int) < (nb : Int) := by omega
        have g2 : ¬ ((k : Int) = (nb : Int)) := by omega
        have g3 : ((k : Int) == (nb : Int)) = false := by simp; omega
        have g4 : decide ((i : Int) < (i : Int)) = false := by simp
        obtain ⟨bb, fb, Kb, kb, Vb, vb, rb, eb, hbb, Eb, b0, b1, b2, b3, bk, bv⟩ := HUB.out.pick hib
        subst eb
        have DB : Hid (bs.drop k = elOf Kb kb Vb vb rb :: bs.drop (k + 1)) := Lib.hid (by rw [drop_at hib, Eb])
        have ISB : Hid (IsRc wr wr.heap.size (.agg (elRow Kb kb Vb vb rb)) rb) := Lib.hid ⟨_, _, rfl, bk, bv⟩
        clear Eb bk bv
        go_wp2_with fail
        go_quiet (fail)
        generalize nq = n1
        go_wp2_with fail
        go_quiet (fail)
        have HOD := Lib.hid (HOW.out.drewN (n1 + nq)); have HBD := Lib.hid (below_drewN HBW.out (n1 + nq))
        go_wp2_with (at_builtin; go_loud (refine app_el rfl (.tmp 76) (.tmp 81) rfl w (wr.drewN (n1 + nq)) w.heap.size _ os Kb kb Vb vb rb rfl rfl HOD.out HBD.out (Nat.le_refl _) (by have := HOL.out; omega) ?_); intro v4 w4 hO4 hB4
                     have HO4 := Lib.hid hO4; have HB4 := Lib.hid hB4
                     clear hO4 hB4)
        go_roundg ((i - (i)) + (nb - (k + 1)))
        case measure => have := HQ.out; omega
        case rel => exact ⟨i, k + 1, os ++ [elOf Kb kb Vb vb rb], rfl, by omega, by omega, by go_num, by go_num, by rw [← HOS.out, List.append_assoc]; congr 1; rw [List.drop_of_length_le (i := i) (by rw [HNA.out]; exact Nat.le_refl _), DB.out]; simp [two], by have := HOL.out; simp; omega, HO4.out, HB4.out⟩
      · have h2' : k = nb := by omega
        subst h2'
        have n2 : ¬ ((k : Int) < (k : Int)) := by omega
        have HE : Hid (two oE xs bs = os) := by
          show _ = _
          rw [← HOS.out, List.drop_of_length_le (i := i) (by rw [HNA.out]; exact Nat.le_refl _), List.drop_of_length_le (i := k) (by rw [HNB.out]; exact Nat.le_refl _)]; simp [two]
        go_wp2_with fail
        go_ret
        exact ⟨⟨_, rfl, by rw [HE.out]; exact HOW.out⟩, HBW.out⟩
end Go.Proofs.Ytfcemlcocdhmfaa
