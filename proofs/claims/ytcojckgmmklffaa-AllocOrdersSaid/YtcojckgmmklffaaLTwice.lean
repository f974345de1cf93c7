/- The walk of AllocTwice. -/
import Derived.Test.YtcojckgmmklffaaLOnly
import Derived.Test.YtcojckgmmklffaaLTurned
import Derived.BigRegion
namespace Go.Proofs.Ytcojckgmmklffaa
open Go.RowKit Go
set_option linter.unusedVariables false
set_option linter.unusedSimpArgs false

theorem own_set {w : World} {base g cap n s i : Nat} {e : TypeId} {xs : List Value} (h : w.ownsRow base e s (.slice (some ⟨g, 0, none⟩) n cap) n xs) (hi : i < n * s) (u : Value) :
    (w.setCell ⟨g, i, none⟩ u).ownsRow base e s (.slice (some ⟨g, 0, none⟩) n cap) n (xs.set i u) := by
  refine ⟨by rw [List.length_set]; exact h.1, ?_⟩
  rcases h.2 with ⟨h1, _⟩ | ⟨g', cap', cur, h1, h2, h3, h4, h5, h6, h7⟩
  · cases h1
  · injection h1 with h1 _ h8; injection h1 with h1; injection h1 with h1 _ _; subst h1; subst h8
    refine .inr ⟨g, cap, cur.setIfInBounds i u, rfl, h2, blk_set h3 i u, h4, h5, by simpa using h6, ?_⟩
    rw [Array.toList_setIfInBounds, List.take_set, h7]
theorem own_cell {w : World} {base g cap n s i : Nat} {e : TypeId} {xs : List Value} (h : w.ownsRow base e s (.slice (some ⟨g, 0, none⟩) n cap) n xs) {u : Value} (hu : xs[i]? = some u) : w.cell? ⟨g, i, none⟩ = some u ∧ w.frozen? ⟨g, i, none⟩ = false := by
  have hc := h.cells (g := g) rfl i u hu
  have he : (⟨g, 0, none⟩ : Addr).add i = ⟨g, i, none⟩ := by unfold Addr.add; split <;> simp_all
  rw [he] at hc
  refine ⟨hc, ?_⟩
  rcases h.2 with ⟨h1, _⟩ | ⟨g', cap', cur, h1, h2, h3, _⟩
  · cases h1
  · injection h1 with h1 _ _; injection h1 with h1; injection h1 with h1 _ _; subst h1
    exact blk_free h3 i
/-- What is open once an amount was paid of the first k. -/
def mixI (its : List Dq) (a : Int) (k : Nat) : List Dq := (restI its a).take k ++ its.drop k
theorem restI_len (its : List Dq) (a : Int) : (restI its a).length = its.length := by simp [restI]
theorem mixI_len (its : List Dq) (a : Int) (k : Nat) : (mixI its a k).length = its.length := by simp [mixI, restI_len]; omega
theorem mixI_zero (its : List Dq) (a : Int) : mixI its a 0 = its := by simp [mixI]
theorem mixI_all (its : List Dq) (a : Int) (k : Nat) (h : its.length ≤ k) : mixI its a k = restI its a := by
  unfold mixI; rw [List.take_of_length_le (by rw [restI_len]; exact h), List.drop_eq_nil_of_le h, List.append_nil]
theorem mixI_at (its : List Dq) (a : Int) (k : Nat) (h : k < its.length) : (mixI its a k)[k]'(by rw [mixI_len]; exact h) = its[k] := by
  unfold mixI
  rw [List.getElem_append_right (by simp [restI_len]; omega)]
  simp [restI_len, Nat.min_eq_left (Nat.le_of_lt h)]
theorem itCs_set (l : List Dq) (k : Nat) (h : k < l.length) (v : Int) : (itCs l).set (k * 4 + 3) (.int .i64 v) = itCs (l.set k ⟨l[k].due, l[k].kind, l[k].per, v⟩) := by
  induction l generalizing k with
  | nil => simp at h
  | cons x l ih =>
    have h1 : itCs (x :: l) = itC x ++ itCs l := List.flatMap_cons
    cases k with
    | zero =>
      rw [h1, List.set_cons_zero]
      have h2 : itCs (⟨x.due, x.kind, x.per, v⟩ :: l) = itC ⟨x.due, x.kind, x.per, v⟩ ++ itCs l := List.flatMap_cons
      simp only [List.getElem_cons_zero]
      rw [h2]
      simp [itC]
    | succ k =>
      have hk : k < l.length := by simpa using h
      rw [h1, List.set_cons_succ]
      simp only [List.getElem_cons_succ]
      have h2 : itCs (x :: l.set k ⟨l[k].due, l[k].kind, l[k].per, v⟩) = itC x ++ itCs (l.set k ⟨l[k].due, l[k].kind, l[k].per, v⟩) := List.flatMap_cons
      rw [h2, ← ih k hk, List.set_append_right _ _ (by simp [itC]; omega)]
      congr 2
      simp [itC]; omega
theorem mixI_step (its : List Dq) (a : Int) (k : Nat) (h : k < its.length) : itCs (mixI its a (k + 1)) = (itCs (mixI its a k)).set (k * 4 + 3) (.int .i64 (its[k].opn - paidI its a its[k])) := by
  rw [itCs_set _ _ (by rw [mixI_len]; exact h), mixI_at _ _ _ h]
  congr 1
  have hr : k < (restI its a).length := by rw [restI_len]; exact h
  unfold mixI
  rw [List.take_succ_eq_append_getElem hr, List.set_append_right _ _ (by rw [List.length_take]; omega), List.append_assoc]
  congr 1
  have e0 : k - ((restI its a).take k).length = 0 := by rw [List.length_take]; omega
  have e1 : (restI its a)[k] = ⟨its[k].due, its[k].kind, its[k].per, its[k].opn - paidI its a its[k]⟩ := by simp [restI]
  have e2 : its.drop k = its[k] :: its.drop (k + 1) := List.drop_eq_getElem_cons h
  rw [e0, e1, e2]
  rfl
theorem twice_at {its : List Dq} {a b : Int} (h : payE its a = 0) (hb : 0 ≤ b) (k : Nat) (hk : k < its.length) :
    (payL its a)[k]'(by rw [payL_len]; exact hk) + (payL (restI its a) b)[k]'(by rw [payL_len, restI_len]; exact hk) = (payL its (a + b))[k]'(by rw [payL_len]; exact hk) := by
  obtain ⟨h1, h2⟩ := payE_ok h
  obtain ⟨_, hok, hnd⟩ := placesE_ok h2
  obtain ⟨d, hpd, hri⟩ := rise_ex hnd
  rw [payL_at _ _ _ hk, payL_at _ _ _ (by rw [restI_len]; exact hk), payL_at _ _ _ hk]
  have e : (restI its a)[k]'(by rw [restI_len]; exact hk) = ⟨its[k].due, its[k].kind, its[k].per, its[k].opn - paidI its a its[k]⟩ := by simp [restI]
  rw [e]
  exact twice hok hpd hri h1.1 hb (List.getElem_mem hk)
theorem twice_l {its : List Dq} {a b : Int} (h : payE its a = 0) (hb : 0 ≤ b) : leftI its a + leftI (restI its a) b = leftI its (a + b) := by
  obtain ⟨h1, h2⟩ := payE_ok h
  obtain ⟨_, hok, hnd⟩ := placesE_ok h2
  obtain ⟨d, hpd, hri⟩ := rise_ex hnd
  exact twice_left hok hpd hri h1.1 hb
theorem payE_rest {its : List Dq} {a b : Int} (h : payE its a = 0) (hb : 0 ≤ b ∧ b ≤ 4611686018427387904) : payE (restI its a) b = 0 := by
  unfold payE; rw [if_pos hb]; exact rest_places (payE_ok h).2 a
theorem payE_more {its : List Dq} {a b : Int} (h : payE its a = 0) (hb : 0 ≤ b ∧ b ≤ 4611686018427387904) : payE its b = 0 := by
  unfold payE; rw [if_pos hb]; exact (payE_ok h).2
theorem left_bd {its : List Dq} {a : Int} (h : payE its a = 0) : 0 ≤ leftI its a ∧ leftI its a ≤ a := by
  have := (payE_ok h).1
  have := opens_nonneg ((placesE_ok (payE_ok h).2).2.1)
  unfold leftI; omega
theorem part_bd {its : List Dq} {a : Int} (h : payE its a = 0) (k : Nat) (hk : k < its.length) : 0 ≤ (payL its a)[k]'(by rw [payL_len]; exact hk) ∧ (payL its a)[k]'(by rw [payL_len]; exact hk) ≤ 4611686018427387904 := by
  obtain ⟨p0, p1, p2, p3, p4⟩ := pay_part h k hk
  have := (payE_ok h).1
  omega

set_option maxHeartbeats 6400000 in
set_option maxRecDepth 100000 in
theorem allocTwice_walk (A : Option Addr) (its : List Dq) (a b : Int) (n c : Nat) (w : World) (hn : its.length = n) (hr : Rd w w.heap.size 4 A n (itCs its)) (hm : n ≤ maxLen) :
    Calls Try.prog 6 #[.slice A n c, .int .i64 a, .int .i64 b] w fun e w' => e = .returned (.bool true) ∧ Below w.heap.size w w' := by
  unfold maxLen at hm
  obtain ⟨i0, hi, hz0, hz1', hz9⟩ := info_parts info_it
  have HN := Lib.hid hn; have HR := Lib.hid hr
  clear hn hr
  go_enter Try.func6, Try.ntmps6
  go_wp2_with fail
  refine (awake_any w).mono ?_; rintro e w1 ⟨rfl, hw1⟩
  have HW1 := Lib.hid hw1; have HR1 := Lib.hid ((HR.out.below hw1).wider hw1.size); have hz1 := hw1.size
  clear hw1
  by_cases hall : n ≤ 500 ∧ 0 ≤ a ∧ 0 ≤ b ∧ a ≤ 2305843009213693952 ∧ b ≤ 2305843009213693952
  · obtain ⟨h, ha0, hb0, ha1, hb1⟩ := hall
    have HP := Lib.hid (pay_n A its a n c w1 HN.out HR1.out (by unfold maxLen; omega))
    go_wp2_with fail
    refine HP.out.mono ?_
    intro e w2 hp
    obtain ⟨hb2, hx⟩ := hp
    have HB2 := Lib.hid (HW1.out.trans (hb2.mono hz1))
    have HR2 := Lib.hid ((HR1.out.below hb2).wider hb2.size)
    clear hb2
    rcases hx with ⟨hne, rfl⟩ | ⟨he, X, cx, rfl, hrx, hcx⟩
    · have hq : (payE its a != 0) = true := by simpa using hne
      go_wp2_with fail
      go_ret
      exact ⟨rfl, HB2.out⟩
    · have HE := Lib.hid he
      rw [HN.out] at hrx
      rw [HN.out]
      have HRX := Lib.hid hrx
      have hz2 := HB2.out.size
      obtain ⟨hl0, hl1⟩ := left_bd he
      have HTL := Lib.hid (twice_l (b := b) he hb0)
      clear he hrx HP
      have hown0 : (w2.alloc (.cells #[] 37)).ownsRow w2.heap.size 37 4 (.slice (some ⟨w2.heap.size, 0, none⟩) 0 0) 0 [] := World.ownsRow_made w2 #[] 0 (Nat.le_refl _) (by simp [maxLen]) rfl
      have HO0 := Lib.hid hown0; clear hown0
      have HBE : Hid (Below w2.heap.size w2 (w2.alloc (.cells #[] 37))) := Lib.hid (below_new _ _)
      have HRE := Lib.hid (HR2.out.below HBE.out)
      go_wp2_with (at_builtin; go_loud (refine wpList_app rfl (.tmp 51) (.tmp 52) _ rfl w2.heap.size 37 i0 _ 4 32 Try.underlying22 hi hz0 hz1' hz9 rfl (by omega) _ _ _ rfl HO0.out _ A n c (itCs its) rfl HRE.out (itCs_one its) (by unfold maxLen; omega) (by omega) (by simp) ?_); intro v3 w3 hown3 hg3 hat3)
      rw [List.nil_append, Nat.zero_add] at hown3
      have HB3 : Hid (Below w2.heap.size w2 w3) := Lib.hid (HBE.out.grown hg3 (by simp) (fun k hk => (HO0.out.lt k hk).1))
      obtain ⟨A3, c3, rfl, _⟩ := own_form hown3
      have HO3 : Hid (w3.ownsRow w2.heap.size 37 4 (.slice A3 n c3) n (itCs (mixI its a 0))) := Lib.hid (by rw [mixI_zero]; exact hown3)
      clear hown3 hg3 hat3 HO0
      go_wp2_with fail
      go_loopg [12] n (fun gh vi wr => ∃ k : Nat, gh = n - k ∧ k ≤ n ∧ vi = .int .i64 k ∧ wr.ownsRow w2.heap.size 37 4 (.slice A3 n c3) n (itCs (mixI its a k)) ∧ Below w2.heap.size w2 wr)
      case atStart => exact ⟨0, rfl, by omega, rfl, HO3.out, HB3.out⟩
      case round =>
        obtain ⟨k, hgk, hk, rfl, hown, hbr⟩ := hrel
        have HG := Lib.hid hgk; have HO := Lib.hid hown; have HB := Lib.hid hbr
        clear hgk hown hbr
        by_cases hlt : k < n
        · have hk' : k < its.length := by have := HN.out; omega
          obtain ⟨g, cp, hA3, hg1, hg2⟩ := HO.out.form (by omega)
          injection hA3 with hA3 _ hc3
          subst hA3; subst hc3
          have hkm : k < (mixI its a k).length := by rw [mixI_len]; exact hk'
          obtain ⟨_, _, _, m3⟩ := itCs_at (mixI its a k) k hkm
          rw [mixI_at _ _ _ hk'] at m3
          obtain ⟨cr, fr⟩ := own_cell HO.out m3
          have hkp : k < (payL its a).length := by rw [payL_len]; exact hk'
          obtain ⟨bx, ox, rfl, hbx, xx⟩ := (HRX.out.below HB.out).num hkp
          have hpb := part_bd HE.out k hk'
          have HST := Lib.hid (mixI_step its a k hk')
          have hob : 0 ≤ its[k].opn ∧ its[k].opn ≤ 4611686018427387904 := by
            have := okI_yes (List.all_eq_true.1 ((placesE_ok (payE_ok HE.out).2).2.1) its[k] (List.getElem_mem hk'))
            omega
          rw [payL_at _ _ _ hk'] at xx hpb
          generalize paidI its a its[k] = x at *
          generalize its[k].opn = o at *
          obtain ⟨o1, o2⟩ := hob
          obtain ⟨x1, x2⟩ := hpb
          have j1 : (0 : Int) ≤ (k : Int) := by omega
          have j2 : (k : Int) < (n : Int) := by omega
          have s1 : IntKind.i64.wrap (o - x) = o - x := IntWalk.i64_in _ (by omega)
          have ne : bx ≠ g := by omega
          clear m3
          go_wp2_with fail
          go_region
          all_goals clear s1 cr fr xx
          all_goals go_wp2_with fail
          all_goals go_roundg (n - (k + 1))
          case measure => have := HG.out; omega
          case rel => exact ⟨k + 1, rfl, by omega, by go_num, by rw [HST.out]; exact own_set HO.out (by omega) _, (HB.out.setCell (p := ⟨g, k * 4 + 3, none⟩) hg1 _).drew⟩
        · have hkn : k = n := by omega
          subst hkn
          have hrm := Rd.of_own HO.out
          rw [mixI_all _ _ _ (by rw [HN.out]; exact Nat.le_refl _)] at hrm
          have HP2 := Lib.hid (pay_n A3 (restI its a) b k c3 wr (by rw [restI_len]; exact HN.out) hrm (by unfold maxLen; omega))
          have HBR := Lib.hid (HB2.out.trans (HB.out.mono hz2))
          clear hrm
          go_wp2_with fail
          refine HP2.out.mono ?_
          intro e w4 hp
          obtain ⟨hb4, ⟨hne, rfl⟩ | ⟨he, Y, cy, rfl, hry, hcy⟩⟩ := hp
          · exact absurd (payE_rest HE.out (by omega)) hne
          · have HRY := Lib.hid hry
            have hB24 := HB.out.trans (hb4.mono HB.out.size)
            have HB4 := Lib.hid (HBR.out.trans (hb4.mono HBR.out.size))
            have HR4 := Lib.hid ((HR2.out.below hB24).wider hB24.size)
            have HRX4 := Lib.hid ((HRX.out.below hB24).wider hB24.size)
            have HP3 := Lib.hid (pay_n A its (a + b) k c w4 HN.out HR4.out (by unfold maxLen; omega))
            rw [restI_len, HN.out] at HRY
            rw [restI_len, HN.out]
            clear hb4 he hry hB24 HRX
            go_wp2_with fail
            refine HP3.out.mono ?_
            intro e w5 hp
            obtain ⟨hb5, ⟨hne, rfl⟩ | ⟨he, Z, cz, rfl, hrz, hcz⟩⟩ := hp
            · exact absurd (payE_more HE.out (by omega)) hne
            · have HB5 := Lib.hid (HB4.out.trans (hb5.mono HB4.out.size))
              have HRX5 := Lib.hid ((HRX4.out.below hb5).wider hb5.size)
              have HRY5 := Lib.hid ((HRY.out.below hb5).wider hb5.size)
              rw [HN.out] at hrz
              rw [HN.out]
              have HRZ := Lib.hid hrz
              obtain ⟨m1, m2⟩ := left_bd (payE_rest (b := b) HE.out (by omega))
              have htl := HTL.out
              clear hb5 he hrz HRX4 HRY
              generalize leftI (restI its a) b = L2 at *
              generalize leftI its (a + b) = L3 at *
              generalize leftI its a = L1 at *
              go_wp2_with fail
              go_loopg [19] k (fun gh vi wx => ∃ i : Nat, gh = k - i ∧ i ≤ k ∧ vi = .int .i64 i ∧ Below w5.heap.size w5 wx)
              case atStart => exact ⟨0, rfl, by omega, rfl, Below.refl _ _⟩
              case round =>
                obtain ⟨i, hgi, hi', rfl, hb⟩ := hrel
                have HGI := Lib.hid hgi; have HBI := Lib.hid hb
                clear hgi hb
                by_cases hlt : i < k
                · have hk' : i < its.length := by have := HN.out; omega
                  have e1 : i < (payL its a).length := by rw [payL_len]; exact hk'
                  have e2 : i < (payL (restI its a) b).length := by rw [payL_len, restI_len]; exact hk'
                  have e3 : i < (payL its (a + b)).length := by rw [payL_len]; exact hk'
                  obtain ⟨bx, ox, rfl, hbx, xx⟩ := (HRX5.out.below HBI.out).num e1
                  obtain ⟨by', oy, rfl, hby, yy⟩ := (HRY5.out.below HBI.out).num e2
                  obtain ⟨bz, oz, rfl, hbz, zz⟩ := (HRZ.out.below HBI.out).num e3
                  have htw := twice_at (b := b) HE.out hb0 i hk'
                  have q1 := part_bd HE.out i hk'
                  have q2 := part_bd (payE_rest (b := b) HE.out (by omega)) i (by rw [restI_len]; exact hk')
                  have q3 := part_bd (payE_more (b := a + b) HE.out (by omega)) i hk'
                  generalize (payL its a)[i] = x at *
                  generalize (payL (restI its a) b)[i] = y at *
                  generalize (payL its (a + b))[i] = z at *
                  obtain ⟨q11, q12⟩ := q1
                  obtain ⟨q21, q22⟩ := q2
                  have HTW := Lib.hid htw
                  have j1 : (0 : Int) ≤ (i : Int) := by omega
                  have j2 : (i : Int) < (k : Int) := by omega
                  have hsum : x + y ≤ 4611686018427387904 := by rw [htw]; exact q3.2
                  have hq : (x + y != z) = false := by simpa using htw
                  have s2 : IntKind.i64.wrap (x + y) = x + y := IntWalk.i64_in _ (by omega)
                  clear htw
                  go_wp2_with fail
                  go_quiet (fail)
                  clear s2
                  go_wp2_with fail
                  go_roundg (k - (i + 1))
                  case measure => have := HGI.out; omega
                  case rel => exact ⟨i + 1, rfl, by omega, by go_num, below_drewN HBI.out _⟩
                · have s1 : -9223372036854775808 ≤ L1 + L2 := by omega
                  have s2 : L1 + L2 ≤ 9223372036854775807 := by omega
                  have HB6 := Lib.hid (HB5.out.trans (HBI.out.mono HB5.out.size))
                  have e : (L1 + L2 == L3) = true := by simpa using htl
                  clear htl
                  go_wp2_with fail
                  go_ret
                  exact ⟨ret_bool (by simp), HB6.out⟩
  · have hd : 500 < n ∨ a < 0 ∨ b < 0 ∨ 2305843009213693952 < a ∨ 2305843009213693952 < b := by omega
    clear hall
    by_cases c0 : 500 < n
    · go_wp2_with fail
      go_ret
      exact ⟨rfl, HW1.out⟩
    · by_cases c1 : a < 0
      · go_wp2_with fail
        go_ret
        exact ⟨rfl, HW1.out⟩
      · by_cases c2 : b < 0
        · go_wp2_with fail
          go_ret
          exact ⟨rfl, HW1.out⟩
        · by_cases c3 : 2305843009213693952 < a
          · go_wp2_with fail
            go_ret
            exact ⟨rfl, HW1.out⟩
          · have c4 : 2305843009213693952 < b := by omega
            clear hd
            go_wp2_with fail
            go_ret
            exact ⟨rfl, HW1.out⟩
end Go.Proofs.Ytcojckgmmklffaa
