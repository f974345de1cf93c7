/- The walk of AllocOnly. -/
import Derived.Test.YtcojckgmmklffaaAL0
import Derived.Test.YtcojckgmmklffaaAX2
namespace Go.Proofs.Ytcojckgmmklffaa
open Go.RowKit Go
set_option linter.unusedVariables false
set_option linter.unusedSimpArgs false

theorem payE_ok {its : List Dq} {a : Int} (h : payE its a = 0) : (0 ≤ a ∧ a ≤ 4611686018427387904) ∧ placesE its = 0 := by
  unfold payE at h
  by_cases h1 : 0 ≤ a ∧ a ≤ 4611686018427387904
  · rw [if_pos h1] at h; exact ⟨h1, h⟩
  · rw [if_neg h1] at h; omega
theorem payE_cases (its : List Dq) (a : Int) : payE its a = 0 ∨ payE its a = 1 ∨ payE its a = 5 := by
  unfold payE; split
  · exact placesE_cases its
  · simp
theorem payL_len (its : List Dq) (a : Int) : (payL its a).length = its.length := by simp [payL]
theorem payL_at (its : List Dq) (a : Int) (k : Nat) (h : k < its.length) : (payL its a)[k]'(by rw [payL_len]; exact h) = paidI its a its[k] := by simp [payL]
theorem pay_sum {its : List Dq} {a : Int} (h : payE its a = 0) : (payL its a).sum = a - leftI its a := by
  obtain ⟨h1, h2⟩ := payE_ok h
  obtain ⟨_, hok, hnd⟩ := placesE_ok h2
  obtain ⟨d, hpd, hri⟩ := rise_ex hnd
  exact paidSum hok hpd hri h1.1
theorem pay_part {its : List Dq} {a : Int} (h : payE its a = 0) (k : Nat) (hk : k < its.length) :
    0 ≤ (payL its a)[k]'(by rw [payL_len]; exact hk) ∧ (payL its a)[k]'(by rw [payL_len]; exact hk) ≤ its[k].opn ∧ 0 ≤ ((payL its a).take k).sum ∧ (payL its a)[k]'(by rw [payL_len]; exact hk) ≤ a - ((payL its a).take k).sum ∧ ((payL its a).take (k + 1)).sum = ((payL its a).take k).sum + (payL its a)[k]'(by rw [payL_len]; exact hk) := by
  obtain ⟨h1, h2⟩ := payE_ok h
  obtain ⟨_, hok, hnd⟩ := placesE_ok h2
  have hp := paid_bd hok (amount := a) (List.getElem_mem hk)
  have hnn : ∀ x ∈ payL its a, 0 ≤ x := fun x hx => by
    obtain ⟨q, hq, rfl⟩ := List.mem_map.1 hx
    exact (paid_bd hok hq).1
  have hs : ((payL its a).take (k + 1)).sum = ((payL its a).take k).sum + (payL its a)[k]'(by rw [payL_len]; exact hk) := by
    rw [List.take_succ_eq_append_getElem (by rw [payL_len]; exact hk), List.sum_append]; simp
  have hle := sum_take_le hnn (k + 1)
  have h0 : 0 ≤ ((payL its a).take k).sum := sum_nonneg fun x hx => hnn x (List.mem_of_mem_take hx)
  have hl : 0 ≤ leftI its a := by unfold leftI; omega
  rw [pay_sum h, hs] at hle
  refine ⟨by rw [payL_at _ _ _ hk]; exact hp.1, by rw [payL_at _ _ _ hk]; exact hp.2, h0, by omega, hs⟩
theorem pay_ahead {its : List Dq} {a : Int} (h : payE its a = 0) {k i : Nat} (hk : k < its.length) (hi : i < its.length) (ha : aheadI its[k] its[i] = true) (hp : 0 < (payL its a)[i]'(by rw [payL_len]; exact hi)) : (payL its a)[k]'(by rw [payL_len]; exact hk) = its[k].opn := by
  obtain ⟨h1, h2⟩ := payE_ok h
  obtain ⟨_, hok, hnd⟩ := placesE_ok h2
  rw [aheadI_key (List.all_eq_true.1 hok _ (List.getElem_mem hk)) (List.all_eq_true.1 hok _ (List.getElem_mem hi)), decide_eq_true_eq] at ha
  have := ahd_lt hok (List.getElem_mem hk) ha
  have h3 := okI_yes (List.all_eq_true.1 hok _ (List.getElem_mem hk))
  rw [payL_at _ _ _ hi] at hp
  rw [payL_at _ _ _ hk]
  unfold paidI clampP at *
  omega
theorem left_whole {its : List Dq} {a : Int} (h : payE its a = 0) (hl : leftI its a ≠ 0) (k : Nat) (hk : k < its.length) : (payL its a)[k]'(by rw [payL_len]; exact hk) = its[k].opn := by
  obtain ⟨h1, h2⟩ := payE_ok h
  obtain ⟨_, hok, hnd⟩ := placesE_ok h2
  have h4 := ahd_all hok (List.getElem_mem hk)
  have h3 := okI_yes (List.all_eq_true.1 hok _ (List.getElem_mem hk))
  rw [payL_at _ _ _ hk]
  unfold leftI at hl
  unfold paidI clampP
  omega

set_option maxHeartbeats 6400000 in
set_option maxRecDepth 100000 in
theorem allocOnly_walk (A : Option Addr) (its : List Dq) (a : Int) (n c : Nat) (w : World) (hn : its.length = n) (hr : Rd w w.heap.size 4 A n (itCs its)) (hm : n ≤ maxLen) :
    Calls Try.prog 5 #[.slice A n c, .int .i64 a] w fun e w' => e = .returned (.bool true) ∧ Below w.heap.size w w' := by
  unfold maxLen at hm
  have HN := Lib.hid hn; have HR := Lib.hid hr
  clear hn hr
  go_enter Try.func5, Try.ntmps5
  go_wp2_with fail
  refine (awake_any w).mono ?_; rintro e w1 ⟨rfl, hw1⟩
  have HW1 := Lib.hid hw1; have HR1 := Lib.hid ((HR.out.below hw1).wider hw1.size); have hz1 := hw1.size
  clear hw1
  by_cases h : n ≤ 500
  · have HP := Lib.hid (pay_n A its a n c w1 HN.out HR1.out (by unfold maxLen; omega))
    go_wp2_with fail
    refine HP.out.mono ?_
    intro e w2 hp
    obtain ⟨hb2, hx⟩ := hp
    have HB2 := Lib.hid (HW1.out.trans (hb2.mono hz1))
    have HR2 := Lib.hid ((HR1.out.below hb2).wider hb2.size)
    clear hb2
    rcases hx with ⟨hne, rfl⟩ | ⟨he, X, cx, rfl, hrx, hcx⟩
    · rcases payE_cases its a with he | he | he
      · exact absurd he hne
      · rw [he]; clear he hne
        go_wp2_with fail
        go_ret
        exact ⟨ret_bool (by simp), HB2.out⟩
      · rw [he]; clear he hne
        go_wp2_with fail
        go_ret
        exact ⟨ret_bool (by simp), HB2.out⟩
    · have HE := Lib.hid he
      rw [HN.out] at hrx
      rw [HN.out]
      have HRX := Lib.hid hrx
      have HSUM := Lib.hid (pay_sum he)
      have HA := (payE_ok he).1
      have hl0 : 0 ≤ leftI its a ∧ leftI its a ≤ a := by
        have := (payE_ok he).1
        have := opens_nonneg ((placesE_ok (payE_ok he).2).2.1)
        unfold leftI; omega
      have HWH : Hid (leftI its a ≠ 0 → ∀ k (hk : k < its.length), (payL its a)[k]'(by rw [payL_len]; exact hk) = its[k].opn) := Lib.hid (fun h k hk => left_whole HE.out h k hk)
      obtain ⟨L, hLd⟩ : ∃ L, leftI its a = L := ⟨_, rfl⟩
      rw [hLd] at HSUM hl0 HWH
      rw [hLd]
      clear hLd he hrx
      obtain ⟨hl0, hl1⟩ := hl0
      obtain ⟨ha0, ha1⟩ := HA
      go_wp2_with fail
      go_loopg [9, 10, 11] n (fun gh vs vw vi wr => ∃ (i : Nat) (b : Bool), gh = n - i ∧ i ≤ n ∧ vi = .int .i64 i ∧ vs = .int .i64 ((payL its a).take i).sum ∧ vw = .bool b ∧ (b = false → L = 0) ∧ Below w2.heap.size w2 wr)
      case atStart => exact ⟨0, true, rfl, by omega, rfl, rfl, rfl, (fun h => by cases h), Below.refl _ _⟩
      case round =>
        obtain ⟨i, b, hgi, hi, rfl, rfl, rfl, hwl, hb⟩ := hrel
        have HGI := Lib.hid hgi; have HWL := Lib.hid hwl; have HB := Lib.hid hb
        clear hgi hwl hb
        by_cases hlt : i < n
        · have hi' : i < its.length := by have := HN.out; omega
          have hip : i < (payL its a).length := by rw [payL_len]; exact hi'
          obtain ⟨p0, p1, p2, p3, p4⟩ := pay_part HE.out i hi'
          obtain ⟨bx, ox, hX, hbx, xx⟩ := (HRX.out.below HB.out).num hip
          subst hX
          obtain ⟨bi, oi, hAA, hbi, x0, x1, x2, x3⟩ := (HR2.out.below HB.out).it hi'
          subst hAA
          have HWX : Hid (L ≠ 0 → (payL its a)[i] = its[i].opn) := Lib.hid (fun h => HWH.out h i hi')
          have HAH : Hid (∀ k (hk : k < its.length), aheadI its[k] its[i] = true → 0 < (payL its a)[i] → (payL its a)[k]'(by rw [payL_len]; exact hk) = its[k].opn) := Lib.hid (fun k hk h1 h2 => pay_ahead HE.out hk hi' h1 h2)
          have HP4 := Lib.hid p4; clear p4
          generalize hSd : ((payL its a).take i).sum = S at *
          generalize hxd : (payL its a)[i] = x at *
          generalize hyd : its[i] = y at *
          have HSD := Lib.hid hSd; have HXD := Lib.hid hxd; have HYD := Lib.hid hyd
          clear hSd hxd hyd
          have q0 : decide (x < 0) = false := decide_eq_false (by omega)
          have q1 : decide (y.opn < x) = false := decide_eq_false (by omega)
          have q2 : decide (a - S < x) = false := decide_eq_false (by omega)
          have j1 : (0 : Int) ≤ (i : Int) := by omega
          have j2 : (i : Int) < (n : Int) := by omega
          have j3 : S + x ≤ 4611686018427387904 := by omega
          have s1 : IntKind.i64.wrap (a - S) = a - S := IntWalk.i64_in _ (by omega)
          go_wp2_with fail
          go_quiet (fail)
          clear s1 q0 q1 q2
          go_wp2_with fail
          have HB0 := Lib.hid (below_drewN HB.out nq)
          generalize hwd : wr.drewN nq = wd at *
          have hcw : ∀ o, wd.cell? ⟨bx, o, none⟩ = wr.cell? ⟨bx, o, none⟩ := fun o => by rw [← hwd]; rfl
          have hcw2 : ∀ o, wd.cell? ⟨bi, o, none⟩ = wr.cell? ⟨bi, o, none⟩ := fun o => by rw [← hwd]; rfl
          replace xx := (hcw _).trans xx
          replace x3 := (hcw2 _).trans x3
          clear hcw hcw2 hwd x0 x1 x2 HB
          obtain ⟨b2, hb2⟩ : ∃ b2 : Bool, b2 = (b && (x == y.opn)) := ⟨_, rfl⟩
          go_upto_region 18 with fail
          go_cut [10] from 90 to 102 (fun v10 wx => v10 = .bool b2 ∧ ∃ q, wx = wd.drewN q)
          case first =>
            cases b with
            | false =>
              go_quiet (fail)
              go_wp2_with fail
              go_meet
              exact ⟨by rw [hb2]; rfl, _, rfl⟩
            | true =>
              cases hq : (x == y.opn)
              · have HQ := Lib.hid hq
                rw [hq] at hb2
                go_quiet (fail)
                go_wp2_with fail
                go_meet
                exact ⟨by rw [hb2]; first | rfl | (simp; done), _, rfl⟩
              · have HQ := Lib.hid hq
                rw [hq] at hb2
                go_quiet (fail)
                go_wp2_with fail
                go_meet
                exact ⟨by rw [hb2]; first | rfl | (simp; done), _, rfl⟩
          case rest =>
            obtain ⟨rfl, q, rfl⟩ := hcut
            have HB1 := Lib.hid (below_drewN HB0.out q)
            have HWL2 : Hid (b2 = false → L = 0) := Lib.hid (fun h => by
              rw [hb2] at h
              by_cases hL : L = 0
              · exact hL
              · have h1 := HWX.out hL
                have h2 : b = true := by
                  cases b with
                  | true => rfl
                  | false => exact absurd (HWL.out rfl) hL
                rw [h2, h1] at h; simp at h)
            have hcw : ∀ p : Addr, (wd.drewN q).cell? p = wd.cell? p := fun _ => rfl
            replace xx := (hcw _).trans xx
            clear hcw hb2 x3
            generalize wd.drewN q = we at *
            have gx := World.block_lt_of_cell? _ _ xx
            go_wp2_with fail
            go_loopg [12] n (fun gh vk wx => ∃ k : Nat, gh = n - k ∧ k ≤ n ∧ vk = .int .i64 k ∧ Below we.heap.size we wx)
            case atStart => exact ⟨0, rfl, by omega, rfl, Below.refl _ _⟩
            case round =>
              obtain ⟨k, hgk, hk, rfl, hb⟩ := hrel
              have HGK := Lib.hid hgk; have HBK := Lib.hid hb
              have hzk := hb.size
              clear hgk hb
              by_cases hlk : k < n
              · have hk' : k < its.length := by have := HN.out; omega
                have hkp : k < (payL its a).length := by rw [payL_len]; exact hk'
                have xk := ((HRX.out.below HB1.out).below (HBK.out.mono HB1.out.size)).num2 hkp
                have xi : wr.cell? ⟨bx, ox + i, none⟩ = some (.int .i64 x) := (HBK.out.cell (p := ⟨bx, ox + i, none⟩) gx).trans xx
                obtain ⟨y0, y1, y2, y3⟩ := ((HR2.out.below HB1.out).below (HBK.out.mono HB1.out.size)).it2 hi'
                obtain ⟨z0, z1, z2, z3⟩ := ((HR2.out.below HB1.out).below (HBK.out.mono HB1.out.size)).it2 hk'
                rw [HYD.out] at y0 y1 y2 y3
                have HAK := Lib.hid (HAH.out k hk')
                generalize (payL its a)[k] = xk' at *
                generalize its[k] = z at *
                obtain ⟨t, ht⟩ : ∃ t, aheadI z y = t := ⟨_, rfl⟩
                have HT := Lib.hid ht; rw [ht] at HAK; clear ht
                have k1 : (0 : Int) ≤ (k : Int) := by omega
                have k2 : (k : Int) < (n : Int) := by omega
                have g3 : bi < wr.heap.size := World.block_lt_of_cell? _ _ y0
                have g4 : bx < wr.heap.size := World.block_lt_of_cell? _ _ xk
                go_wp2_with fail
                go_region_held3 (fun w' => w'.cell? ⟨bi, oi + k * 4, none⟩ = some (.int .i64 z.due) ∧ w'.cell? ⟨bi, oi + k * 4 + 1, none⟩ = some (.int .i64 z.kind) ∧ w'.cell? ⟨bi, oi + k * 4 + 2, none⟩ = some (.int .i64 z.per) ∧ w'.cell? ⟨bi, oi + k * 4 + 3, none⟩ = some (.int .i64 z.opn) ∧
                    w'.cell? ⟨bi, oi + i * 4, none⟩ = some (.int .i64 y.due) ∧ w'.cell? ⟨bi, oi + i * 4 + 1, none⟩ = some (.int .i64 y.kind) ∧ w'.cell? ⟨bi, oi + i * 4 + 2, none⟩ = some (.int .i64 y.per) ∧ w'.cell? ⟨bi, oi + i * 4 + 3, none⟩ = some (.int .i64 y.opn))
                  ((first | (with_reducible exact ⟨z0, z1, z2, z3, y0, y1, y2, y3⟩) | exact ⟨z0, z1, z2, z3, y0, y1, y2, y3⟩ | exact ⟨(hcB _ g3).trans z0, (hcB _ g3).trans z1, (hcB _ g3).trans z2, (hcB _ g3).trans z3, (hcB _ g3).trans y0, (hcB _ g3).trans y1, (hcB _ g3).trans y2, (hcB _ g3).trans y3⟩))
                  ((go_at_call 18; refine (ahead_any z y wr.drew).mono ?_; rintro e w3 ⟨rfl, hw3⟩; have hcB := fun (a : Addr) (hp : a.block < wr.heap.size) => hw3.cell hp; have HW3 := Lib.hid hw3; clear hw3; rw [HT.out]))
                have HB3 := Lib.hid (HBK.out.trans (((Below.refl _ _).drew.trans HW3.out).mono hzk))
                replace xk := (hcB _ g4).trans xk
                replace xi := (hcB _ g4).trans xi
                replace z3 := (hcB _ g3).trans z3
                clear hcB z0 z1 z2 y0 y1 y2 y3
                cases t with
                | false =>
                  clear xk xi z3
                  go_wp2_with fail
                  go_quiet (fail)
                  go_wp2_with fail
                  go_roundg (n - (k + 1))
                  case measure => have := HGK.out; omega
                  case rel => exact ⟨k + 1, rfl, by omega, by go_num, below_drewN HB3.out _⟩
                | true =>
                  by_cases hxp : 0 < x
                  · have hkk := HAK.out rfl hxp
                    have r0 : decide (0 < x) = true := decide_eq_true hxp
                    have r1 : decide (xk' < z.opn) = false := decide_eq_false (by omega)
                    clear hkk
                    go_wp2_with fail
                    go_quiet (fail)
                    clear r0 r1
                    go_wp2_with fail
                    go_roundg (n - (k + 1))
                    case measure => have := HGK.out; omega
                    case rel => exact ⟨k + 1, rfl, by omega, by go_num, below_drewN HB3.out _⟩
                  · have r0 : decide (0 < x) = false := decide_eq_false hxp
                    clear xk z3
                    go_wp2_with fail
                    go_quiet (fail)
                    clear r0
                    go_wp2_with fail
                    go_roundg (n - (k + 1))
                    case measure => have := HGK.out; omega
                    case rel => exact ⟨k + 1, rfl, by omega, by go_num, below_drewN HB3.out _⟩
              · go_wp2_with fail
                go_roundg (n - (i + 1))
                case measure => have := HGI.out; omega
                case rel => exact ⟨i + 1, b2, rfl, by omega, by go_num, by rw [HP4.out], rfl, HWL2.out, HB1.out.trans (HBK.out.mono HB1.out.size)⟩
        · have hin : i = n := by omega
          subst hin
          have htk : (payL its a).take i = payL its a := List.take_of_length_le (by rw [payL_len, HN.out]; exact Nat.le_refl _)
          rw [htk, HSUM.out]
          have e1 : (L == a - (a - L)) = true := by simp; omega
          have s1 : -9223372036854775808 ≤ a - (a - L) := by omega
          have s2 : a - (a - L) ≤ 9223372036854775807 := by omega
          clear htk
          by_cases hL : L = 0
          · subst hL
            go_wp2_with fail
            go_ret
            exact ⟨ret_bool (by simp), HB2.out.trans (HB.out.mono HB2.out.size)⟩
          · have hLb : (L == 0) = false := by simpa using hL
            have hb : b = true := by
              cases b with
              | true => rfl
              | false => exact absurd (HWL.out rfl) hL
            subst hb
            clear hL
            go_wp2_with fail
            go_ret
            exact ⟨ret_bool (by simp), HB2.out.trans (HB.out.mono HB2.out.size)⟩
  · go_wp2_with fail
    go_ret
    exact ⟨rfl, HW1.out⟩
end Go.Proofs.Ytcojckgmmklffaa
