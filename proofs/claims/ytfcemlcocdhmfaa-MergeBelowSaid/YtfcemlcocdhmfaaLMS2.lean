/- The walk of MergeSame. -/
import Derived.Test.YtfcemlcocdhmfaaLMS
namespace Go.Proofs.Ytfcemlcocdhmfaa
open Go.RowKit Go
set_option linter.unusedVariables false
set_option linter.unusedSimpArgs false

set_option maxHeartbeats 6400000 in
set_option maxRecDepth 100000 in
theorem mergeSame_walk (A : Option Addr) (c : Nat) (qs : List El) (Am : Option Addr) (nm cm : Nat) (ms : List Int) (bot : Bool) (w : World) (h : RowB w (.slice A qs.length c) qs) (hn : qs.length ≤ 9223372036854775807) (hms : Rd w w.heap.size 1 Am nm (ints ms)) :
    Calls Try.prog 7 #[.slice A qs.length c, .slice Am nm cm, .bool bot] w fun e w' => e = .returned (.bool true) ∧ Below w.heap.size w w' := by
  have H := Lib.hid h; have HM := Lib.hid hms; have HNW := Lib.hid hn; clear h hms hn
  go_enter Try.func7, Try.ntmps7
  go_wp2_with fail
  refine (awake_any w).mono ?_; rintro e w1 ⟨rfl, hw1⟩
  have HB1 := Lib.hid hw1; have H1 := Lib.hid (H.out.up hw1)
  clear hw1
  go_wp2_with fail
  refine (few_any _ qs w1 H1.out).mono ?_; rintro e w2 ⟨m, rfl, hm, rfl⟩
  have HMM := Lib.hid hm; clear hm
  have HIO := Lib.hid (inOrder_refw _ qs w2 H1.out HNW.out)
  go_wp2_with fail
  refine HIO.out.mono ?_; rintro e w3 ⟨rfl, hw3⟩
  have HB3 := Lib.hid (HB1.out.trans (hw3.mono HB1.out.size)); have H3 := Lib.hid (H1.out.up hw3)
  clear hw3 HIO H1 HB1
  cases m with
  | false =>
    go_wp2_with fail
    go_ret
    exact ⟨by first | rfl | simp, HB3.out⟩
  | true =>
    cases ho : inO (qs.map El.r) with
    | false =>
      go_wp2_with fail
      go_ret
      exact ⟨by first | rfl | simp, HB3.out⟩
    | true =>
      have HO := Lib.hid ho; clear ho
      have HF := Lib.hid (HMM.out rfl); clear HMM
      by_cases h50 : 50 < nm
      · have h50' : (50 : Int) < (nm : Int) := by omega
        go_wp2_with fail
        go_ret
        exact ⟨by first | rfl | simp, HB3.out⟩
      · have h50' : (nm : Int) ≤ 50 := by omega
        have hl : qs.length ≤ 1000 := HF.out.len
        obtain ⟨N, hN⟩ : ∃ N, qs.length = N := ⟨_, rfl⟩
        have HN := Lib.hid hN
        have HNM : Hid (nm ≤ 50) := Lib.hid (by omega)
        rw [hN] at hl H3 ⊢
        have HKA := Lib.hid (keep_any (.slice A N c) Am nm cm bot ms qs w3 H3.out (by omega) HF.out.lens ((HM.out.below HB3.out).wider HB3.out.size) (by omega))
        clear hN h50
        go_wp2_with fail
        refine HKA.out.mono ?_; rintro e w4 ⟨⟨v4, ks, rfl, hr4, hp4, hl4⟩, hw4⟩
        have HB4 := Lib.hid (HB3.out.trans (hw4.mono HB3.out.size)); have H4 := Lib.hid (H3.out.up hw4)
        have HR4 := Lib.hid hr4; have HP4 := Lib.hid hp4; have HL4 := Lib.hid hl4
        obtain ⟨Ak, ck, rfl⟩ := hr4.form
        have hkl : ks.length ≤ N := by have := kept_le hp4; rw [HN.out] at this; exact this
        clear hw4 hr4 hp4 hl4 HKA H3 HB3
        obtain ⟨K, hK⟩ : ∃ K, ks.length = K := ⟨_, rfl⟩
        have HK := Lib.hid hK
        rw [hK] at hkl HR4 ⊢
        clear hK
        go_wp2_with fail
        go_loopg [11, 12] N (fun g vl vi wr => ∃ k : Nat, g = N - k ∧ k ≤ N ∧ vi = .int .i64 k ∧ vl = .int .i64 (lastS 0 ((qs.map El.r).take k)) ∧ wr = w4)
        case atStart => exact ⟨0, rfl, Nat.zero_le _, rfl, rfl, rfl⟩
        case round =>
          obtain ⟨k, hg, hk, rfl, rfl, rfl⟩ := hrel
          have HG := Lib.hid hg
          clear hg
          by_cases hlt : k < N
          · have hkq : k < qs.length := by rw [HN.out]; exact hlt
            obtain ⟨b, off, rfl, hbl, r0, r1, r2, r3⟩ := H4.out.at_ hkq
            have HST : Hid (lastS 0 ((qs.map El.r).take (k + 1)) = max (lastS 0 ((qs.map El.r).take k)) qs[k].r.seq) := Lib.hid (by
              rw [List.take_succ_eq_append_getElem (by simpa using hkq), lastS_snoc]; simp)
            generalize lastS 0 ((qs.map El.r).take k) = l0 at *
            generalize qs[k] = q at *
            clear r0 r2 r3
            have i1 : (0 : Int) ≤ (k : Int) := by omega
            have i2 : (k : Int) < (N : Int) := by omega
            go_wp2_with fail
            go_roundg (N - (k + 1))
            case measure => have := HG.out; omega
            case rel => exact ⟨k + 1, rfl, by omega, by go_num, by rw [HST.out], rfl⟩
          · have hkN : k = N := by omega
            subst hkN
            have htk : (qs.map El.r).take k = qs.map El.r := List.take_of_length_le (by simp [HN.out])
            rw [htk]
            obtain ⟨last, hlast⟩ : ∃ l, lastS 0 (qs.map El.r) = l := ⟨_, rfl⟩
            have HLS : Hid (∀ r ∈ qs.map El.r, r.seq ≤ last) := Lib.hid (by rw [← hlast]; exact (lastS_ge _ 0).2)
            rw [hlast]
            clear htk hlast HG
            have n1 : ¬ ((k : Int) < (k : Int)) := by omega
            have HRM := Lib.hid (((HM.out.below HB4.out).wider HB4.out.size).below ((Below.refl wr.heap.size wr).alloc (Nat.le_refl _) (.cells #[] 3)))
            go_wp2_with (first
              | (at_builtin; go_loud (refine app_ms rfl (.tmp 54) (.tmp 55) rfl wr Am nm cm ms wr.heap.size (by rfl) (by rfl) HRM.out (by have := HNM.out; omega) ?_); intro v5 w5 hO5 hb5
                 obtain ⟨A5, c5, rfl, _⟩ := own_form hO5
                 have HO5 := Lib.hid hO5; have HB5 := Lib.hid hb5
                 clear hO5 hb5)
              | (at_builtin; go_loud (refine app_last rfl (.tmp 56) (.tmp 58) rfl wr w5 nm (.slice A5 nm c5) ms last (by rfl) (by rfl) HO5.out HB5.out (by have := HNM.out; omega) ?_); intro v6 w6 hO6 hb6
                 obtain ⟨A6, c6, rfl, _⟩ := own_form hO6
                 have HO6 := Lib.hid hO6; have HB6 := Lib.hid hb6
                 clear hO6 hb6)
              | go_in)
            have hal : (ms ++ [last]).length = nm + 1 := by
              have := HM.out.1; rw [List.length_append, List.length_singleton]; simp [ints] at this; omega
            have HAL := Lib.hid hal
            have HRD := Lib.hid (Rd.of_own HO6.out)
            have HGD : Hid (∀ i (hi : i < (ms ++ [last]).length), Good ms (qs.map El.r) (ms ++ [last])[i]) := Lib.hid (fun i hi => by
              by_cases hi2 : i < ms.length
              · rw [List.getElem_append_left hi2]; exact .inl (List.getElem_mem hi2)
              · right
                have : (ms ++ [last])[i] = last := by rw [List.getElem_append_right (by omega)]; simp
                rw [this]; exact HLS.out)
            have HB46 := HB6
            have HAT : Hid (∀ m, Good ms (qs.map El.r) m → AtS m (ks.map El.r) = AtS m (qs.map El.r)) := Lib.hid (fun m hg => by rw [HP4.out]; exact keepS_at HO.out hg)
            clear hal HB5 HO5 HLS
            go_wp2_with fail
            generalize wr = wk at *
            have h61 : (w6.heap.size : Nat) = w6.heap.size := rfl
            go_loopg [14] (nm + 1) (fun g vi wx => ∃ i : Nat, g = nm + 1 - i ∧ i ≤ nm + 1 ∧ vi = .int .i64 i ∧ Below w6.heap.size w6 wx)
            case atStart => exact ⟨0, rfl, Nat.zero_le _, rfl, Below.refl _ _⟩
            case round =>
              obtain ⟨i, hg, hi, rfl, hbx⟩ := hrel
              have HG := Lib.hid hg; have HBX := Lib.hid hbx
              have HBK := Lib.hid (HB46.out.trans (hbx.mono HB46.out.size))
              have HKR := Lib.hid (HR4.out.up HBK.out); have HQR := Lib.hid (H4.out.up HBK.out)
              clear hg hbx h61
              by_cases hlt : i < nm + 1
              · have hil : i < (ms ++ [last]).length := by rw [HAL.out]; exact hlt
                obtain ⟨ba, oa, rfl, hba, c0⟩ := ((HRD.out.below HBX.out).wider HBX.out.size).numM hil
                have HG1 := Lib.hid (HGD.out i hil)
                generalize (ms ++ [last])[i] = m at *
                have i1 : (0 : Int) ≤ (i : Int) := by omega
                have i2 : (i : Int) < ((nm + 1 : Nat) : Int) := by omega
                have i3 : (i : Int) < (nm : Int) + 1 := by omega
                have HEQ := Lib.hid (HAT.out m HG1.out)
                have HA1 := Lib.hid (fun (wy : World) (hy : Below wr.heap.size wr wy) => at_any (.slice Ak K ck) m ks wy (HKR.out.up hy) (by rw [HK.out]; omega) HL4.out)
                have HA2 := Lib.hid (fun (wy : World) (hy : Below wr.heap.size wr wy) => at_any (.slice A k c) m qs wy (HQR.out.up hy) (by rw [HN.out]; omega) HF.out.lens)
                clear hil
                go_wp2_with fail
                go_cut [15] from 60 to 80 (fun v15 wz => v15 = .bool true ∧ Below wr.heap.size wr wz)
                case first =>
                  go_region_held3 (fun w' => w'.cell? ⟨ba, oa + i, none⟩ = some (.int .i64 m))
                    ((first | exact c0 | exact (hcA _ hba).trans c0 | exact (hcB _ hba).trans c0 | exact (hcC _ hba).trans c0))
                    ((first
                      | (go_at_call 16; refine (HA1.out wr.drew (Below.refl _ _).drew).mono ?_; rintro e wa ⟨⟨va, pa, rfl, hra, hpa⟩, hwa⟩; have HWA : Hid (Below wr.heap.size wr wa) := Lib.hid ((Below.refl _ _).drew.trans hwa); have hcA := fun (p : Addr) (hp : p.block < wr.heap.size) => HWA.out.cell hp; have HRA := Lib.hid hra; have HPA := Lib.hid hpa; obtain ⟨Aa, ca, rfl⟩ := hra.form; clear hra hpa hwa)
                      | (go_at_call 16; refine (HA2.out wa HWA.out).mono ?_; rintro e wb ⟨⟨vb, pb, rfl, hrb, hpb⟩, hwb⟩; have HWB : Hid (Below wr.heap.size wr wb) := Lib.hid (HWA.out.trans (hwb.mono HWA.out.size)); have hcB := fun (p : Addr) (hp : p.block < wr.heap.size) => HWB.out.cell hp; have HRAB := Lib.hid (HRA.out.up hwb); have HRB := Lib.hid hrb; have HPB := Lib.hid hpb; obtain ⟨Ab, cb, rfl⟩ := hrb.form; clear hrb hpb hwb)
                      | (go_at_call 15; refine (sameAllP _ _ pa pb wb HRAB.out HRB.out (by have := pairs_len HPA.out; rw [HK.out] at this; omega) (by have := pairs_len HPB.out; rw [HN.out] at this; omega)).mono ?_; rintro e wc ⟨rfl, hwc⟩; have HWC : Hid (Below wr.heap.size wr wc) := Lib.hid (HWB.out.trans (hwc.mono HWB.out.size)); have hcC := fun (p : Addr) (hp : p.block < wr.heap.size) => HWC.out.cell hp; clear hwc; rw [decide_eq_true (show pa.map Pr.p = pb.map Pr.p by rw [HPA.out, HPB.out, HEQ.out])])))
                  all_goals go_wp2_with fail
                  all_goals go_meet
                  all_goals exact ⟨rfl, HWC.out⟩
                case rest =>
                  obtain ⟨rfl, hbz⟩ := hcut
                  have HBZ := Lib.hid (HBX.out.trans (hbz.mono HBX.out.size))
                  clear hbz c0
                  go_wp2_with fail
                  go_roundg (nm + 1 - (i + 1))
                  case measure => have := HG.out; omega
                  case rel => exact ⟨i + 1, rfl, by omega, by go_num, HBZ.out⟩
              · have hiM : i = nm + 1 := by omega
                subst hiM
                have n1 : ¬ (((nm + 1 : Nat) : Int) < ((nm + 1 : Nat) : Int)) := by omega
                have HKA := Lib.hid (keep_any (.slice Ak K ck) Am nm cm bot ms ks wr HKR.out (by rw [HK.out]; omega) HL4.out ((HM.out.below (HB4.out.trans (HBK.out.mono HB4.out.size))).wider (HB4.out.trans (HBK.out.mono HB4.out.size)).size) (by have := HNM.out; omega))
                go_wp2_with fail
                refine HKA.out.mono ?_; rintro e w7 ⟨⟨v7, ks2, rfl, hr7, hp7, _⟩, hw7⟩
                have HP7 := Lib.hid hp7
                have HE : Hid (ks2.map El.r = ks.map El.r) := Lib.hid (by rw [HP7.out, HP4.out]; exact keepS_again HO.out)
                have HSA := Lib.hid (sameAllB v7 (.slice Ak K ck) ks2 ks w7 hr7 (HKR.out.up hw7) (by have := kept_le hp7; rw [HK.out] at this; omega) (by rw [HK.out]; omega))
                rw [decide_eq_true HE.out] at HSA
                obtain ⟨A7, c7, rfl⟩ := hr7.form
                have HB7 := Lib.hid (HBK.out.trans (hw7.mono HBK.out.size))
                clear hr7 hp7 hw7 HKA
                go_wp2_with fail
                refine HSA.out.mono ?_; rintro e w8 ⟨rfl, hw8⟩
                have HB8 := Lib.hid (HB7.out.trans (hw8.mono HB7.out.size))
                clear hw8 HSA
                have hKk : (K : Int) ≤ (k : Int) := by omega
                go_wp2_with fail
                go_ret
                exact ⟨by first | rfl | (simp; omega), HB4.out.trans (HB8.out.mono HB4.out.size)⟩
end Go.Proofs.Ytfcemlcocdhmfaa
