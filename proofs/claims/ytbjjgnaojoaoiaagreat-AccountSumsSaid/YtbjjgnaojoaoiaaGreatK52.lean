/- What a step's move tells is no wider than an amount. -/
import Derived.Test.YtbjjgnaojoaoiaaGreatK36
namespace Go.Proofs.YtbjjgnaojoaoiaaGreat
set_option linter.unusedVariables false
set_option linter.unusedSimpArgs false

structure MvB (m : Mv) : Prop where
  c0 : -4611686018427387904 ≤ m.c0 ∧ m.c0 ≤ 4611686018427387904
  c1 : -4611686018427387904 ≤ m.c1 ∧ m.c1 ≤ 4611686018427387904
  c2 : -4611686018427387904 ≤ m.c2 ∧ m.c2 ≤ 4611686018427387904
  paid : -4611686018427387904 ≤ m.paid ∧ m.paid ≤ 4611686018427387904
  cr : -4611686018427387904 ≤ m.cr ∧ m.cr ≤ 4611686018427387904
  cash : -4611686018427387904 ≤ m.cash ∧ m.cash ≤ 4611686018427387904
theorem MvB.zero : MvB Mv.zero := ⟨by simp [Mv.zero], by simp [Mv.zero], by simp [Mv.zero], by simp [Mv.zero], by simp [Mv.zero], by simp [Mv.zero]⟩
theorem bd_file {S : Ac} (h : Good S) (s : Sch) (r : Ret) (he : (fileS S s r).2.2 = 0) : MvB (fileS S s r).2.1 := by
  unfold fileS at he ⊢
  by_cases h0 : (billS s (r.onDay S.day)).2 ≠ 0
  · rw [if_pos h0] at he; exact absurd he h0
  · rw [if_neg h0] at he ⊢
    by_cases h1 : S.place r.per ≠ -1
    · rw [if_pos h1] at he; simp at he
    · rw [if_neg h1] at he ⊢
      by_cases h2 : 20 ≤ S.ps.length
      · rw [if_pos h2] at he; simp at he
      · rw [if_neg h2] at he ⊢
        obtain ⟨b, er, hbl⟩ : ∃ b er, billS s (r.onDay S.day) = (b, er) := ⟨_, _, rfl⟩
        rw [hbl] at h0 he ⊢
        simp only at h0 he ⊢
        have hbb : retB (r.onDay S.day) = true ∧ (0 ≤ b.prin ∧ b.prin ≤ 1125899906842624) ∧ (0 ≤ b.pen ∧ b.pen ≤ b.prin) ∧ (0 ≤ b.exc ∧ b.exc ≤ 1125899906842624) := by
          by_cases hs : OkS s
          · by_cases hrr : retB (r.onDay S.day) = true
            · rw [billS_yes hs hrr] at hbl
              have h3 := bill_bd hs hrr
              injection hbl with hbl _
              rw [hbl] at h3
              exact ⟨hrr, h3.2.1, h3.2.2.1, h3.2.2.2.1⟩
            · rw [billS_no2 hrr] at hbl; injection hbl with _ h; omega
          · rw [billS_no1 hs] at hbl; injection hbl with _ h; omega
        obtain ⟨hrr, hpr, hpe, hex⟩ := hbb
        unfold file1 at he ⊢
        by_cases h3 : (settleS S.day S.bp (newPer (r.onDay S.day) b)).1 ≠ 0
        · rw [if_pos h3] at he; exact absurd he h3
        · rw [if_neg h3] at he ⊢
          by_cases h4 : (addS S.cr b.exc).2 ≠ 0
          · rw [if_pos h4] at he; simp at he
          · rw [if_neg h4]
            obtain ⟨k1, k2, k3, k4, k5, k6⟩ := newPer_ok h hrr hpr hpe (by omega)
            have hb1 := k1.b1
            exact ⟨by show _ ≤ b.pen ∧ b.pen ≤ _; omega, by show _ ≤ (settleS S.day S.bp (newPer (r.onDay S.day) b)).2.1 ∧ (settleS S.day S.bp (newPer (r.onDay S.day) b)).2.1 ≤ _; omega, by show _ ≤ b.prin ∧ b.prin ≤ _; omega, by show _ ≤ (0 : Int) ∧ (0 : Int) ≤ _; omega, by show _ ≤ b.exc ∧ b.exc ≤ _; omega, by show _ ≤ (0 : Int) ∧ (0 : Int) ≤ _; omega⟩
theorem bd_amend {S : Ac} (h : Good S) (s : Sch) (n inc wh : Int) (he : (amendS S s n inc wh).2.2 = 0) : MvB (amendS S s n inc wh).2.1 := by
  unfold amendS at he ⊢
  by_cases h0 : S.place n = -1
  · rw [if_pos h0] at he; simp at he
  · rw [if_neg h0] at he ⊢
    obtain ⟨i, hi, e1, e2, e3⟩ := place_at2 h0
    rw [e3, e1, Int.toNat_natCast] at he ⊢
    unfold amend1 at he ⊢
    by_cases h1 : (changeS s S.ps[i].ret (S.ps[i].ret.other2 inc wh)).2 ≠ 0
    · rw [if_pos h1] at he; exact absurd he h1
    · rw [if_neg h1] at he ⊢
      obtain ⟨k1, k2, k3, k4, k5, k6⟩ := change_ok (by omega : (changeS s S.ps[i].ret (S.ps[i].ret.other2 inc wh)).2 = 0)
      generalize changeS s S.ps[i].ret (S.ps[i].ret.other2 inc wh) = ch at *
      have hp := (h.per _ (List.getElem_mem hi)).with_ k3
      by_cases h2 : (amd3 S.day ch.1.pen (ch.1.prin - ch.1.exc) (S.ps[i].with_ (S.ps[i].ret.other2 inc wh))).1 ≠ 0
      · rw [if_pos h2] at he; simp at he
      · rw [if_neg h2] at he ⊢
        obtain ⟨q1, q2, q3, q4, q5, q6, q7, q8⟩ := amd3_ok hp h.day h.bp (by omega : (amd3 S.day ch.1.pen (ch.1.prin - ch.1.exc) (S.ps[i].with_ (S.ps[i].ret.other2 inc wh))).1 = 0)
        generalize amd3 S.day ch.1.pen (ch.1.prin - ch.1.exc) (S.ps[i].with_ (S.ps[i].ret.other2 inc wh)) = am at *
        by_cases h3 : (addS S.cr am.2.1.cr).2 ≠ 0
        · rw [if_pos h3] at he; simp at he
        · rw [if_neg h3]
          obtain ⟨f1, f2, f3⟩ := add_ok (by omega : (addS S.cr am.2.1.cr).2 = 0)
          have hcr := h.cr
          have a0 := hp.b0; have a1 := hp.b1; have a2 := hp.b2
          have b0 := q1.b0; have b1 := q1.b1; have b2 := q1.b2
          exact ⟨by show _ ≤ am.2.1.c0 ∧ am.2.1.c0 ≤ _; omega, by show _ ≤ am.2.1.c1 ∧ am.2.1.c1 ≤ _; omega, by show _ ≤ am.2.1.c2 ∧ am.2.1.c2 ≤ _; omega, by show _ ≤ am.2.1.paid ∧ am.2.1.paid ≤ _; omega, by show _ ≤ am.2.1.cr ∧ am.2.1.cr ≤ _; omega, by show _ ≤ am.2.1.cash ∧ am.2.1.cash ≤ _; omega⟩
theorem bd_zero : (-4611686018427387904 : Int) ≤ 0 ∧ (0 : Int) ≤ 4611686018427387904 := by decide
theorem bd_pay {S : Ac} (h : Good S) (id a : Int) (he : (payS S id a).2.2 = 0) : MvB (payS S id a).2.1 := by
  unfold payS at he ⊢
  by_cases h0 : ¬ ((1 ≤ id ∧ id ≤ 1099511627776) ∧ 1 ≤ a ∧ a ≤ 1125899906842624)
  · rw [if_pos h0] at he; simp at he
  · rw [if_neg h0] at he ⊢
    have ha : (1 ≤ id ∧ id ≤ 1099511627776) ∧ 1 ≤ a ∧ a ≤ 1125899906842624 := by simp at h0; omega
    by_cases h1 : 0 ≤ S.pay id
    · rw [if_pos h1] at he; simp at he
    · rw [if_neg h1] at he ⊢
      by_cases h2 : 50 ≤ S.ms.length
      · rw [if_pos h2] at he; simp at he
      · rw [if_neg h2] at he ⊢
        obtain ⟨ps, e, hi, hr, hp, hri⟩ := h.paid (a := a) (by omega)
        have hl := leftI_bd h.places (show 0 ≤ a by omega)
        unfold pay1 at he ⊢
        rw [e] at he ⊢
        simp only at he ⊢
        by_cases h3 : (addS S.cr (leftI (itemsOf S.ps) a)).2 = 0
        · rw [if_pos h3]
          exact ⟨bd_zero, bd_zero, bd_zero, by show _ ≤ a - leftI (itemsOf S.ps) a ∧ a - leftI (itemsOf S.ps) a ≤ _; omega, by show _ ≤ leftI (itemsOf S.ps) a ∧ leftI (itemsOf S.ps) a ≤ _; omega, by show _ ≤ a ∧ a ≤ _; omega⟩
        · rw [if_neg h3] at he; simp at he
theorem bd_offset {S : Ac} (h : Good S) (a : Int) (he : (offsetS S a).2.2 = 0) : MvB (offsetS S a).2.1 := by
  unfold offsetS at he ⊢
  by_cases h0 : ¬ (1 ≤ a ∧ a ≤ 1125899906842624)
  · rw [if_pos h0] at he; simp at he
  · rw [if_neg h0] at he ⊢
    have ha : 1 ≤ a ∧ a ≤ 1125899906842624 := by simpa using h0
    by_cases h1 : S.cr < a
    · rw [if_pos h1] at he; simp at he
    · rw [if_neg h1] at he ⊢
      obtain ⟨ps, e, hi, hr, hp, hri⟩ := h.paid (a := a) (by omega)
      have hl := leftI_bd h.places (show 0 ≤ a by omega)
      unfold offset1 at he ⊢
      rw [e] at he ⊢
      exact ⟨bd_zero, bd_zero, bd_zero, by show _ ≤ a - leftI (itemsOf S.ps) a ∧ a - leftI (itemsOf S.ps) a ≤ _; omega, by show _ ≤ leftI (itemsOf S.ps) a - a ∧ leftI (itemsOf S.ps) a - a ≤ _; omega, bd_zero⟩
theorem bd_refund {S : Ac} (a : Int) (he : (refundS S a).2.2 = 0) : MvB (refundS S a).2.1 := by
  unfold refundS at he ⊢
  by_cases h0 : ¬ (1 ≤ a ∧ a ≤ 1125899906842624)
  · rw [if_pos h0] at he; simp at he
  · rw [if_neg h0] at he ⊢
    have ha : 1 ≤ a ∧ a ≤ 1125899906842624 := by simpa using h0
    by_cases h1 : S.cr < a
    · rw [if_pos h1] at he; simp at he
    · rw [if_neg h1]
      exact ⟨bd_zero, bd_zero, bd_zero, bd_zero, by show _ ≤ -a ∧ -a ≤ _; omega, by show _ ≤ -a ∧ -a ≤ _; omega⟩
theorem bd_advance {S : Ac} (h : Good S) (d : Int) (he : (advanceS S d).2.2 = 0) : MvB (advanceS S d).2.1 := by
  unfold advanceS at he ⊢
  by_cases h0 : ¬ (0 ≤ d ∧ d ≤ 36500)
  · rw [if_pos h0] at he; simp at he
  · rw [if_neg h0] at he ⊢
    by_cases h1 : 3652058 < S.day + d
    · rw [if_pos h1] at he; simp at he
    · rw [if_neg h1] at he ⊢
      unfold advance1 at he ⊢
      by_cases h2 : (advK (S.day + d) S.bp S.ps S.ps.length).1 ≠ 0
      · rw [if_pos h2] at he; exact absurd he h2
      · rw [if_neg h2]
        have hd : 0 ≤ d ∧ d ≤ 36500 := by simpa using h0
        have hn := (advK_ok (T := S.day + d) h.per (by omega) S.ps.length (Nat.le_refl _) (by omega)).1.nn
        exact ⟨bd_zero, by show _ ≤ (advK (S.day + d) S.bp S.ps S.ps.length).2.1 ∧ (advK (S.day + d) S.bp S.ps S.ps.length).2.1 ≤ _; omega, bd_zero, bd_zero, bd_zero, bd_zero⟩
theorem bd_reverse {S : Ac} (h : Good S) (id : Int) (he : (reverseS S id).2.2 = 0) : MvB (reverseS S id).2.1 := by
  unfold reverseS at he ⊢
  by_cases h0 : S.pay id < 0
  · rw [if_pos h0] at he; simp at he
  · rw [if_neg h0] at he ⊢
    obtain ⟨i, hi, e1, e2, e3⟩ := pay_at h0
    rw [e3, e1, Int.toNat_natCast] at he ⊢
    by_cases h1 : S.ms[i].rev = true
    · rw [if_pos h1] at he; simp at he
    · rw [if_neg h1] at he ⊢
      by_cases h2 : S.cr < S.ms[i].rest
      · rw [if_pos h2] at he; simp at he
      · rw [if_neg h2] at he ⊢
        unfold reverse1 at he ⊢
        have hm := h.pm _ (List.getElem_mem hi)
        cases hg : giveS S.day 1 S.ps S.ms[i].parts with
        | none => rw [hg] at he; simp at he
        | some ps =>
          have hs := hm.sum; have hr := hm.rest; have ha := hm.amt
          have ho := opens_nn (l := S.ms[i].parts) (fun x hx => by have := (hm.placed x hx).2.2; omega)
          exact ⟨bd_zero, bd_zero, bd_zero, by show _ ≤ S.ms[i].rest - S.ms[i].amt ∧ S.ms[i].rest - S.ms[i].amt ≤ _; omega, by show _ ≤ -S.ms[i].rest ∧ -S.ms[i].rest ≤ _; omega, by show _ ≤ -S.ms[i].amt ∧ -S.ms[i].amt ≤ _; omega⟩
theorem bd_step {S : Ac} (h : Good S) (t : Stp) (he : (stepS S t).2.2 = 0) : MvB (stepS S t).2.1 := by
  unfold stepS at he ⊢
  by_cases h0 : t.act = 0
  · rw [if_pos h0] at he ⊢; exact bd_file h t.s t.r he
  · rw [if_neg h0] at he ⊢
    by_cases h1 : t.act = 1
    · rw [if_pos h1] at he ⊢; exact bd_amend h t.s t.n t.a t.b he
    · rw [if_neg h1] at he ⊢
      by_cases h2 : t.act = 2
      · rw [if_pos h2] at he ⊢; exact bd_pay h t.n t.a he
      · rw [if_neg h2] at he ⊢
        by_cases h3 : t.act = 3
        · rw [if_pos h3] at he ⊢; exact bd_reverse h t.n he
        · rw [if_neg h3] at he ⊢
          by_cases h4 : t.act = 4
          · rw [if_pos h4] at he ⊢; exact bd_offset h t.a he
          · rw [if_neg h4] at he ⊢
            by_cases h5 : t.act = 5
            · rw [if_pos h5] at he ⊢; exact bd_refund t.a he
            · rw [if_neg h5] at he ⊢; exact bd_advance h t.n he
end Go.Proofs.YtbjjgnaojoaoiaaGreat
