/- The walk of AllocAll. -/
import Derived.Test.YtcojckgmmklffaaAW6
import Derived.Test.YtcojckgmmklffaaLTwice
namespace Go.Proofs.Ytcojckgmmklffaa
open Go.RowKit Go
set_option linter.unusedVariables false
set_option linter.unusedSimpArgs false

theorem total_e (its : List Dq) : (totalS its).2 = 0 ∨ (totalS its).2 = 1 ∨ (totalS its).2 = 5 ∨ (totalS its).2 = 2 := by
  unfold totalS sumS told
  split
  · split
    · split <;> simp
    · simp
  · rcases placesE_cases its with h | h | h <;> simp [h]
theorem total_ok {its : List Dq} (h : (totalS its).2 = 0) : totalS its = (opens its, 0) ∧ placesE its = 0 ∧ 0 ≤ opens its ∧ opens its ≤ 4611686018427387904 := by
  unfold totalS at *
  by_cases hp : placesE its = 0
  · rw [if_pos hp] at *
    have ho := opens_nonneg ((placesE_ok hp).2.1)
    unfold sumS at *
    by_cases h1 : (its.map Dq.opn).all amt = true
    · rw [if_pos h1] at *
      by_cases h2 : amt (its.map Dq.opn).sum = true
      · have h3 := amt_yes h2
        exact ⟨told_yes h2, hp, ho, h3.2⟩
      · rw [told_no h2] at h; simp at h
    · rw [if_neg h1] at h; simp at h
  · rw [if_neg hp] at h; exact absurd h hp
/-- The last one that is open, of i. -/
def LastOf (its : List Dq) (i : Nat) (b : Int) : Prop :=
  (b = -1 ∧ ∀ p, p < i → ∀ h : p < its.length, ¬ 0 < its[p].opn) ∨ (∃ j : Nat, b = j ∧ j < i ∧ ∃ hj : j < its.length, 0 < its[j].opn ∧ ∀ p, p < i → ∀ h : p < its.length, 0 < its[p].opn → p = j ∨ keyI its[p] < keyI its[j])
theorem LastOf.start (its : List Dq) : LastOf its 0 (-1) := .inl ⟨rfl, fun p h => by omega⟩
theorem LastOf.shut {its : List Dq} {i : Nat} {b : Int} (h : LastOf its i b) (hi : i < its.length) (ho : ¬ 0 < its[i].opn) : LastOf its (i + 1) b := by
  rcases h with ⟨rfl, h⟩ | ⟨j, rfl, h1, hj, h2, h3⟩
  · exact .inl ⟨rfl, fun p hp hl => by
      by_cases e : p = i
      · subst e; exact ho
      · exact h p (by omega) hl⟩
  · exact .inr ⟨j, rfl, by omega, hj, h2, fun p hp hl h0 => by
      by_cases e : p = i
      · subst e; exact absurd h0 ho
      · exact h3 p (by omega) hl h0⟩
theorem LastOf.first {its : List Dq} {i : Nat} {b : Int} (h : LastOf its i b) (hi : i < its.length) (ho : 0 < its[i].opn) (hb : b < 0) : LastOf its (i + 1) i := by
  rcases h with ⟨rfl, h⟩ | ⟨j, rfl, h1, hj, h2, h3⟩
  · exact .inr ⟨i, rfl, by omega, hi, ho, fun p hp hl h0 => by
      by_cases e : p = i
      · exact .inl e
      · exact absurd h0 (h p (by omega) hl)⟩
  · omega
theorem LastOf.later {its : List Dq} {i j : Nat} (h : LastOf its i (j : Int)) (hi : i < its.length) (hj : j < its.length) (ho : 0 < its[i].opn) (hk : keyI its[j] < keyI its[i]) : LastOf its (i + 1) i := by
  rcases h with ⟨h0, h⟩ | ⟨j', e, h1, hj', h2, h3⟩
  · omega
  · obtain rfl : j = j' := by omega
    exact .inr ⟨i, rfl, by omega, hi, ho, fun p hp hl h0 => by
      by_cases e : p = i
      · exact .inl e
      · rcases h3 p (by omega) hl h0 with h | h
        · subst h; exact .inr hk
        · exact .inr (by omega)⟩
theorem LastOf.stays {its : List Dq} {i j : Nat} (h : LastOf its i (j : Int)) (hi : i < its.length) (hj : j < its.length) (hn : (its.map keyI).Nodup) (hk : ¬ keyI its[j] < keyI its[i]) : LastOf its (i + 1) j := by
  rcases h with ⟨h0, h⟩ | ⟨j', e, h1, hj', h2, h3⟩
  · omega
  · obtain rfl : j = j' := by omega
    exact .inr ⟨j, rfl, by omega, hj, h2, fun p hp hl h0 => by
      by_cases e : p = i
      · subst e
        have : keyI its[p] ≠ keyI its[j] := fun e => two_nodup hl hj (by omega) e hn
        exact .inr (by omega)
      · exact h3 p (by omega) hl h0⟩
theorem opens_pos {its : List Dq} (h : 0 < opens its) : ∃ p, ∃ hp : p < its.length, 0 < its[p].opn := by
  induction its with
  | nil => simp [opens] at h
  | cons x l ih =>
    by_cases hx : 0 < x.opn
    · exact ⟨0, by simp, by simpa using hx⟩
    · have e : opens (x :: l) = x.opn + opens l := by simp [opens]
      obtain ⟨p, hp, hq⟩ := ih (by omega)
      exact ⟨p + 1, by simpa using hp, by simpa using hq⟩
/-- What is paid where one is lacking. -/
theorem all_less {its : List Dq} (hp : placesE its = 0) (hpos : 0 < opens its) {b : Int} (h : LastOf its its.length b) (i : Nat) (hi : i < its.length) : (payL its (opens its - 1))[i]'(by rw [payL_len]; exact hi) = if (i : Int) = b then its[i].opn - 1 else its[i].opn := by
  obtain ⟨_, hok, hnd⟩ := placesE_ok hp
  rw [payL_at _ _ _ hi]
  rcases h with ⟨_, h⟩ | ⟨j, rfl, h1, hj, h2, h3⟩
  · obtain ⟨p, hp', hq⟩ := opens_pos hpos
    exact absurd hq (h p hp' hp')
  · by_cases e : i = j
    · subst e
      rw [if_pos rfl]
      refine last_paid hok (List.getElem_mem hi) h2 (fun x hx h0 => ?_) hnd
      obtain ⟨p, hp', rfl⟩ := List.mem_iff_getElem.1 hx
      rcases h3 p hp' hp' h0 with h | h
      · subst h; exact .inl rfl
      · exact .inr h
    · rw [if_neg (by omega)]
      exact less_paid hok (List.getElem_mem hj) h2 (List.getElem_mem hi) (fun h0 => by
        rcases h3 i hi hi h0 with h | h
        · exact absurd h e
        · exact h)
theorem all_whole {its : List Dq} (hp : placesE its = 0) (i : Nat) (hi : i < its.length) : (payL its (opens its))[i]'(by rw [payL_len]; exact hi) = its[i].opn := by
  rw [payL_at _ _ _ hi]; exact whole_paid ((placesE_ok hp).2.1) (List.getElem_mem hi)

set_option maxHeartbeats 6400000 in
set_option maxRecDepth 100000 in
theorem allocAll_walk (A : Option Addr) (its : List Dq) (n c : Nat) (w : World) (hn : its.length = n) (hr : Rd w w.heap.size 4 A n (itCs its)) (hm : n ≤ maxLen) :
    Calls Try.prog 8 #[.slice A n c] w fun e w' => e = .returned (.bool true) ∧ Below w.heap.size w w' := by
  unfold maxLen at hm
  have HN := Lib.hid hn; have HR := Lib.hid hr
  clear hn hr
  go_enter Try.func8, Try.ntmps8
  go_wp2_with fail
  refine (awake_any w).mono ?_; rintro e w1 ⟨rfl, hw1⟩
  have HW1 := Lib.hid hw1; have HR1 := Lib.hid ((HR.out.below hw1).wider hw1.size); have hz1 := hw1.size
  clear hw1
  by_cases h : n ≤ 500
  · have HT := Lib.hid (total_any A its n c w1 HN.out HR1.out (by unfold maxLen; omega))
    go_wp2_with fail
    refine HT.out.mono ?_; rintro e w2 ⟨rfl, hb2⟩
    have HB2 := Lib.hid (HW1.out.trans (hb2.mono hz1))
    have HR2 := Lib.hid ((HR1.out.below hb2).wider hb2.size)
    have hz2 := HB2.out.size
    clear hb2 HT
    by_cases hgood : (totalS its).2 = 0 ∧ (totalS its).1 ≠ 0
    · obtain ⟨t1, t2, t3, t4⟩ := total_ok hgood.1
      have hne : opens its ≠ 0 := by have := hgood.2; rw [t1] at this; exact this
      have hpos : 0 < opens its := by omega
      have HP := Lib.hid t2
      rw [t1]
      have p1 : payE its (opens its) = 0 := by unfold payE; rw [if_pos ⟨t3, t4⟩]; exact t2
      have p2 : payE its (opens its - 1) = 0 := by unfold payE; rw [if_pos ⟨by omega, by omega⟩]; exact t2
      have l1 : leftI its (opens its) = 0 := by unfold leftI; omega
      have l2 : leftI its (opens its - 1) = 0 := by unfold leftI; omega
      have P1 := Lib.hid p1; have P2 := Lib.hid p2; have L1 := Lib.hid l1; have L2 := Lib.hid l2
      have HWH := Lib.hid (fun i hi => all_whole t2 i hi)
      have HLS := Lib.hid (fun (b : Int) (h : LastOf its its.length b) i hi => all_less t2 hpos h i hi)
      have HY1 := Lib.hid (fun wx (hx : Rd wx wx.heap.size 4 A n (itCs its)) => pay_n A its (opens its) n c wx HN.out hx (by unfold maxLen; omega))
      have HY2 := Lib.hid (fun wx (hx : Rd wx wx.heap.size 4 A n (itCs its)) => pay_n A its (opens its - 1) n c wx HN.out hx (by unfold maxLen; omega))
      clear hgood t1 t2 p1 p2 l1 l2
      generalize hTd : opens its = T at *
      clear hTd
      have hTne : (T == 0) = false := by simpa using hne
      clear hne
      go_wp2_with fail
      refine (HY1.out _ HR2.out).mono ?_
      intro e w3 hp
      obtain ⟨hb3, ⟨hne, rfl⟩ | ⟨he, X, cx, rfl, hrx, hcx⟩⟩ := hp
      · exact absurd P1.out hne
      · rw [HN.out] at hrx
        rw [HN.out, L1.out]
        have HRX := Lib.hid hrx
        have HB3 := Lib.hid (HB2.out.trans (hb3.mono hz2))
        have HR3 := Lib.hid ((HR2.out.below hb3).wider hb3.size)
        have hz3 := HB3.out.size
        clear hb3 he hrx
        go_wp2_with fail
        refine (HY2.out _ HR3.out).mono ?_
        intro e w4 hp
        obtain ⟨hb4, ⟨hne, rfl⟩ | ⟨he, Y, cy, rfl, hry, hcy⟩⟩ := hp
        · exact absurd P2.out hne
        · rw [HN.out] at hry
          rw [HN.out, L2.out]
          have HRY := Lib.hid hry
          have HB4 := Lib.hid (HB3.out.trans (hb4.mono hz3))
          have HR4 := Lib.hid ((HR3.out.below hb4).wider hb4.size)
          have HRX4 := Lib.hid ((HRX.out.below hb4).wider hb4.size)
          clear hb4 he hry HRX HR3
          have hok := (placesE_ok HP.out).2.1
          have hnd := (placesE_ok HP.out).2.2
          have HOK := Lib.hid hok; have HND := Lib.hid hnd
          clear hok hnd
          go_wp2_with fail
          go_loopg [12, 13] n (fun gh vb vi wr => ∃ (i : Nat) (b : Int), gh = n - i ∧ i ≤ n ∧ vi = .int .i64 i ∧ vb = .int .i64 b ∧ (b = -1 ∨ 0 ≤ b ∧ b < n) ∧ LastOf its i b ∧ Below w4.heap.size w4 wr)
          case atStart => exact ⟨0, -1, rfl, by omega, rfl, rfl, .inl rfl, LastOf.start its, Below.refl _ _⟩
          case round =>
            obtain ⟨i, b, hgi, hi, rfl, rfl, hbb, hlo, hb⟩ := hrel
            have HGI := Lib.hid hgi; have HBB := Lib.hid hbb; have HLO := Lib.hid hlo; have HB := Lib.hid hb
            clear hgi hbb hlo hb
            by_cases hlt : i < n
            · have hi' : i < its.length := by have := HN.out; omega
              have hip : i < (payL its T).length := by rw [payL_len]; exact hi'
              obtain ⟨bx, ox, hX, hbx, xx⟩ := (HRX4.out.below HB.out).num hip
              subst hX
              obtain ⟨bi, oi, hAA, hbi, x0, x1, x2, x3⟩ := (HR4.out.below HB.out).it hi'
              subst hAA
              rw [HWH.out i hi'] at xx
              have j1 : (0 : Int) ≤ (i : Int) := by omega
              have j2 : (i : Int) < (n : Int) := by omega
              have HSHUT : Hid (¬ 0 < its[i].opn → LastOf its (i + 1) b) := Lib.hid (fun h => HLO.out.shut hi' h)
              have HFIRST : Hid (0 < its[i].opn → b < 0 → LastOf its (i + 1) (i : Int)) := Lib.hid (fun h h2 => HLO.out.first hi' h h2)
              have HLATE : Hid (∀ j : Nat, b = (j : Int) → ∀ hj : j < its.length, (0 < its[i].opn → keyI its[j] < keyI its[i] → LastOf its (i + 1) (i : Int)) ∧ (¬ keyI its[j] < keyI its[i] → LastOf its (i + 1) (j : Int)) ∧ aheadI its[j] its[i] = decide (keyI its[j] < keyI its[i])) := Lib.hid (fun j e hj => by
                have hl := HLO.out
                rw [e] at hl
                exact ⟨fun h1 h2 => hl.later hi' hj h1 h2, fun h => hl.stays hi' hj HND.out h, aheadI_key (List.all_eq_true.1 HOK.out _ (List.getElem_mem hj)) (List.all_eq_true.1 HOK.out _ (List.getElem_mem hi'))⟩)
              generalize its[i] = y at *
              have hq : (y.opn != y.opn) = false := by simp
              have g1 : bx < wr.heap.size := World.block_lt_of_cell? _ _ xx
              go_wp2_with fail
              go_quiet (fail)
              clear xx hq
              have hcw : ∀ p : Addr, (wr.drewN nq).cell? p = wr.cell? p := fun _ => rfl
              replace x0 := (hcw _).trans x0; replace x1 := (hcw _).trans x1; replace x2 := (hcw _).trans x2; replace x3 := (hcw _).trans x3
              clear hcw
              have HB1 := Lib.hid (below_drewN HB.out nq)
              generalize wr.drewN nq = wd at *
              by_cases ho : 0 < y.opn
              · rcases HBB.out with hb | ⟨hb1, hb2⟩
                · have hbn : b < 0 := by omega
                  have HF := Lib.hid (HFIRST.out ho hbn)
                  have r0 : decide (0 < y.opn) = true := decide_eq_true ho
                  have r1 : decide (b < 0) = true := decide_eq_true hbn
                  clear hb hbn
                  go_wp2_with fail
                  go_quiet (fail)
                  clear r0 r1
                  go_wp2_with fail
                  go_roundg (n - (i + 1))
                  case measure => have := HGI.out; omega
                  case rel => exact ⟨i + 1, i, rfl, by omega, by go_num, rfl, .inr ⟨by omega, by omega⟩, HF.out, below_drewN HB1.out _⟩
                · obtain ⟨j, rfl⟩ := Int.eq_ofNat_of_zero_le hb1
                  have hj : j < its.length := by have := HN.out; omega
                  obtain ⟨hl1, hl2, hl3⟩ := HLATE.out j rfl hj
                  have HL1 := Lib.hid (hl1 ho); have HL2 := Lib.hid hl2; have HL3 := Lib.hid hl3
                  clear hl1 hl2 hl3
                  obtain ⟨z0, z1, z2, z3⟩ := (HR4.out.below HB1.out).it2 hj
                  generalize its[j] = z at *
                  obtain ⟨t, ht⟩ : ∃ t, aheadI z y = t := ⟨_, rfl⟩
                  have HT := Lib.hid ht
                  rw [ht] at HL3
                  clear ht
                  have r0 : decide (0 < y.opn) = true := decide_eq_true ho
                  have r1 : decide ((j : Int) < 0) = false := decide_eq_false (by omega)
                  have k1 : (0 : Int) ≤ (j : Int) := by omega
                  have k2 : (j : Int) < (n : Int) := by omega
                  have g3 : bi < wd.heap.size := World.block_lt_of_cell? _ _ x0
                  go_wp2_with fail
                  go_region_held3 (fun w' => w'.cell? ⟨bi, oi + j * 4, none⟩ = some (.int .i64 z.due) ∧ w'.cell? ⟨bi, oi + j * 4 + 1, none⟩ = some (.int .i64 z.kind) ∧ w'.cell? ⟨bi, oi + j * 4 + 2, none⟩ = some (.int .i64 z.per) ∧ w'.cell? ⟨bi, oi + j * 4 + 3, none⟩ = some (.int .i64 z.opn) ∧
                      w'.cell? ⟨bi, oi + i * 4, none⟩ = some (.int .i64 y.due) ∧ w'.cell? ⟨bi, oi + i * 4 + 1, none⟩ = some (.int .i64 y.kind) ∧ w'.cell? ⟨bi, oi + i * 4 + 2, none⟩ = some (.int .i64 y.per) ∧ w'.cell? ⟨bi, oi + i * 4 + 3, none⟩ = some (.int .i64 y.opn))
                    ((first | (with_reducible exact ⟨z0, z1, z2, z3, x0, x1, x2, x3⟩) | exact ⟨z0, z1, z2, z3, x0, x1, x2, x3⟩ | exact ⟨(hcB _ g3).trans z0, (hcB _ g3).trans z1, (hcB _ g3).trans z2, (hcB _ g3).trans z3, (hcB _ g3).trans x0, (hcB _ g3).trans x1, (hcB _ g3).trans x2, (hcB _ g3).trans x3⟩))
                    ((go_at_call 18; refine (ahead_any z y wd.drew).mono ?_; rintro e w5 ⟨rfl, hw5⟩; have hcB := fun (a : Addr) (hp : a.block < wd.heap.size) => hw5.cell hp; have HW5 := Lib.hid hw5; clear hw5; rw [HT.out]))
                  have HB5 := Lib.hid (HB1.out.trans (((Below.refl _ _).drew.trans HW5.out).mono HB1.out.size))
                  clear hcB z0 z1 z2 z3 x0 x1 x2 x3 r0 r1
                  cases t with
                  | true =>
                    have HF := Lib.hid (HL1.out (by have := of_decide_eq_true HL3.out.symm; omega))
                    go_wp2_with fail
                    go_roundg (n - (i + 1))
                    case measure => have := HGI.out; omega
                    case rel => exact ⟨i + 1, i, rfl, by omega, by go_num, rfl, .inr ⟨by omega, by omega⟩, HF.out, HB5.out⟩
                  | false =>
                    have HF := Lib.hid (HL2.out (by have := of_decide_eq_false HL3.out.symm; omega))
                    go_wp2_with fail
                    go_roundg (n - (i + 1))
                    case measure => have := HGI.out; omega
                    case rel => exact ⟨i + 1, j, rfl, by omega, by go_num, rfl, .inr ⟨by omega, by omega⟩, HF.out, HB5.out⟩
              · have HF := Lib.hid (HSHUT.out (by omega))
                have r0 : decide (0 < y.opn) = false := decide_eq_false ho
                clear x0 x1 x2
                go_wp2_with fail
                go_quiet (fail)
                clear r0
                go_wp2_with fail
                go_roundg (n - (i + 1))
                case measure => have := HGI.out; omega
                case rel => exact ⟨i + 1, b, rfl, by omega, by go_num, rfl, HBB.out, HF.out, below_drewN HB1.out _⟩
            · have hin : i = n := by omega
              subst hin
              have HLF : Hid (∀ k (hk : k < its.length), (payL its (T - 1))[k]'(by rw [payL_len]; exact hk) = if (k : Int) = b then its[k].opn - 1 else its[k].opn) := Lib.hid (fun k hk => HLS.out b (by have := HLO.out; rwa [← HN.out] at this) k hk)
              clear hlt
              go_wp2_with fail
              go_loopg [14] i (fun gh vk wx => ∃ k : Nat, gh = i - k ∧ k ≤ i ∧ vk = .int .i64 k ∧ Below w4.heap.size w4 wx)
              case atStart => exact ⟨0, rfl, by omega, rfl, HB.out⟩
              case round =>
                obtain ⟨k, hgk, hk, rfl, hb⟩ := hrel
                have HGK := Lib.hid hgk; have HBK := Lib.hid hb
                clear hgk hb
                by_cases hlk : k < i
                · have hk' : k < its.length := by have := HN.out; omega
                  have hkp : k < (payL its (T - 1)).length := by rw [payL_len]; exact hk'
                  obtain ⟨by', oy, hY, hby, yy⟩ := (HRY.out.below HBK.out).num hkp
                  subst hY
                  obtain ⟨bi, oi, hAA, hbi, x0, x1, x2, x3⟩ := (HR4.out.below HBK.out).it hk'
                  subst hAA
                  rw [HLF.out k hk'] at yy
                  have hob : 0 ≤ its[k].opn ∧ its[k].opn ≤ 4611686018427387904 := by
                    have := okI_yes (List.all_eq_true.1 HOK.out its[k] (List.getElem_mem hk'))
                    omega
                  generalize its[k] = y at *
                  obtain ⟨o1, o2⟩ := hob
                  have j1 : (0 : Int) ≤ (k : Int) := by omega
                  have j2 : (k : Int) < (i : Int) := by omega
                  clear x0 x1 x2
                  by_cases hkb : (k : Int) = b
                  · rw [if_pos hkb] at yy
                    have hq : ((k : Int) == b) = true := by simpa using hkb
                    have hq2 : (y.opn - 1 != y.opn - 1) = false := by simp
                    clear hkb
                    go_wp2_with fail
                    go_roundg (i - (k + 1))
                    case measure => have := HGK.out; omega
                    case rel => exact ⟨k + 1, rfl, by omega, by go_num, HBK.out⟩
                  · rw [if_neg hkb] at yy
                    have hq : ((k : Int) == b) = false := by simpa using hkb
                    have hq2 : (y.opn != y.opn) = false := by simp
                    clear hkb
                    go_wp2_with fail
                    go_roundg (i - (k + 1))
                    case measure => have := HGK.out; omega
                    case rel => exact ⟨k + 1, rfl, by omega, by go_num, HBK.out⟩
                · go_wp2_with fail
                  go_ret
                  exact ⟨rfl, HB4.out.trans (HBK.out.mono HB4.out.size)⟩
    · rcases total_e its with e | e | e | e
      · have e1 : (totalS its).1 = 0 := by
          by_cases e1 : (totalS its).1 = 0
          · exact e1
          · exact absurd ⟨e, e1⟩ hgood
        have e2 : totalS its = (0, 0) := Prod.ext e1 e
        rw [e2]
        clear e e1 e2 hgood
        go_wp2_with fail
        go_ret
        exact ⟨ret_bool (by simp), HB2.out⟩
      · have e2 : pr (totalS its) = .tuple #[.int .i64 (totalS its).1, .int .i64 1] := by rw [pr, e]
        rw [e2]
        clear e e2 hgood
        go_wp2_with fail
        go_ret
        exact ⟨ret_bool (by simp), HB2.out⟩
      · have e2 : pr (totalS its) = .tuple #[.int .i64 (totalS its).1, .int .i64 5] := by rw [pr, e]
        rw [e2]
        clear e e2 hgood
        go_wp2_with fail
        go_ret
        exact ⟨ret_bool (by simp), HB2.out⟩
      · have e2 : pr (totalS its) = .tuple #[.int .i64 (totalS its).1, .int .i64 2] := by rw [pr, e]
        rw [e2]
        clear e e2 hgood
        go_wp2_with fail
        go_ret
        exact ⟨ret_bool (by simp), HB2.out⟩
  · go_wp2_with fail
    go_ret
    exact ⟨rfl, HW1.out⟩
end Go.Proofs.Ytcojckgmmklffaa
