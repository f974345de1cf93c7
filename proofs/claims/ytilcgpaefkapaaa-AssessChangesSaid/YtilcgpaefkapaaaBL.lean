/- What comes of a return, in plain words. -/
import Derived.Test.YtilcgpaefkapaaaTX
import Derived.Test.YtilcgpaefkapaaaCA
namespace Go.Proofs.Ytilcgpaefkapaaa
set_option linter.unusedVariables false
set_option linter.unusedSimpArgs false

def dayB (n : Int) : Bool := decide (0 ≤ n ∧ n ≤ 3652058)
theorem dayB_yes {n : Int} (h : dayB n = true) : 0 ≤ n ∧ n ≤ 3652058 := by simpa [dayB] using h
theorem dayB_no {n : Int} (h : ¬ dayB n = true) : n < 0 ∨ 3652058 < n := by
  have : ¬ (0 ≤ n ∧ n ≤ 3652058) := by simpa [dayB] using h
  omega
/-- A return. -/
structure Ret where
  per : Int
  due : Int
  filed : Int
  inc : Int
  wh : Int
def retB (r : Ret) : Bool := decide (1 ≤ r.per ∧ r.per ≤ 99999) && dayB r.due && dayB r.filed && mny r.inc && mny r.wh
theorem retB_yes {r : Ret} (h : retB r = true) : (1 ≤ r.per ∧ r.per ≤ 99999) ∧ dayB r.due = true ∧ dayB r.filed = true ∧ mny r.inc = true ∧ mny r.wh = true := by
  simp only [retB, Bool.and_eq_true, decide_eq_true_eq] at h
  exact ⟨h.1.1.1.1, h.1.1.1.2, h.1.1.2, h.1.2, h.2⟩
/-- A bill. -/
structure Bl where
  tax : Int
  prin : Int
  pen : Int
  exc : Int
def Bl.zero : Bl := ⟨0, 0, 0, 0⟩
def Bl.sub (b a : Bl) : Bl := ⟨b.tax - a.tax, b.prin - a.prin, b.pen - a.pen, b.exc - a.exc⟩
noncomputable def lateI (r : Ret) : Int := (lateD r.due.toNat r.filed.toNat : Nat)
def penV (s : Sch) (p l : Int) : Int := if 0 < p ∧ 0 < l then min (max (p * (s.lbp * min l s.most) / 10000) s.least) p else 0
def prinV (s : Sch) (r : Ret) : Int := max (taxV s r.inc - r.wh) 0
noncomputable def billV (s : Sch) (r : Ret) : Bl := ⟨taxV s r.inc, prinV s r, penV s (prinV s r) (lateI r), max (r.wh - taxV s r.inc) 0⟩
noncomputable def billS (s : Sch) (r : Ret) : Bl × Int := if okS s && retB r then (billV s r, 0) else (Bl.zero, 1)
theorem billS_yes {s : Sch} {r : Ret} (h : OkS s) (hr : retB r = true) : billS s r = (billV s r, 0) := by unfold billS; rw [okS_is h, hr]; rfl
theorem billS_no1 {s : Sch} {r : Ret} (h : ¬ OkS s) : billS s r = (Bl.zero, 1) := by unfold billS; rw [okS_no h]; rfl
theorem billS_no2 {s : Sch} {r : Ret} (h : ¬ retB r = true) : billS s r = (Bl.zero, 1) := by unfold billS; rw [Bool.eq_false_iff.2 h, Bool.and_false]; rfl
/-- Bounds of a rate for some months. -/
theorem rate_bd {s : Sch} (h : OkS s) {l : Int} (hl : 0 ≤ l) : 0 ≤ s.lbp * min l s.most ∧ s.lbp * min l s.most ≤ 600000 := by
  obtain ⟨_, ⟨b1, b2⟩, ⟨c1, c2⟩, _⟩ := h
  have h1 : 0 ≤ min l s.most := by omega
  have h2 : min l s.most ≤ 60 := by omega
  refine ⟨Int.mul_nonneg b1 h1, ?_⟩
  exact Int.le_trans (Int.mul_le_mul_of_nonneg_right b2 h1) (Int.mul_le_mul_of_nonneg_left h2 (by omega))
theorem prin_bd {s : Sch} {r : Ret} (h : OkS s) (hr : retB r = true) : 0 ≤ prinV s r ∧ prinV s r ≤ 1125899906842624 := by
  obtain ⟨_, _, _, hi, hw⟩ := retB_yes hr
  have := taxV_bd h hi; have := mny_yes hw
  unfold prinV; omega
theorem pen_prod {s : Sch} (h : OkS s) {p l : Int} (hp : 0 ≤ p ∧ p ≤ 1125899906842624) (hl : 0 ≤ l) :
    0 ≤ p * (s.lbp * min l s.most) ∧ p * (s.lbp * min l s.most) ≤ 675539944105574400000 := by
  have hb := rate_bd h hl
  refine ⟨Int.mul_nonneg hp.1 hb.1, ?_⟩
  exact Int.le_trans (Int.mul_le_mul_of_nonneg_right hp.2 hb.1) (Int.le_trans (Int.mul_le_mul_of_nonneg_left hb.2 (by omega)) (by omega))
theorem pen_bd {s : Sch} (h : OkS s) {p l : Int} (hp : 0 ≤ p ∧ p ≤ 1125899906842624) (hl : 0 ≤ l) : 0 ≤ penV s p l ∧ penV s p l ≤ p := by
  have h1 := pen_prod h hp hl
  have h2 := mny_yes h.2.2.2.2.2.2.2
  have h3 : 0 ≤ p * (s.lbp * min l s.most) / 10000 := Int.ediv_nonneg h1.1 (by omega)
  unfold penV
  split <;> omega
theorem lateI_nn (r : Ret) : 0 ≤ lateI r := by unfold lateI; omega
theorem bill_bd {s : Sch} {r : Ret} (h : OkS s) (hr : retB r = true) : (0 ≤ (billV s r).tax ∧ (billV s r).tax ≤ 1125899906842624) ∧ (0 ≤ (billV s r).prin ∧ (billV s r).prin ≤ 1125899906842624) ∧
    (0 ≤ (billV s r).pen ∧ (billV s r).pen ≤ (billV s r).prin) ∧ (0 ≤ (billV s r).exc ∧ (billV s r).exc ≤ 1125899906842624) ∧ ((billV s r).prin = 0 ∨ (billV s r).exc = 0) ∧ (billV s r).tax = (billV s r).prin + r.wh - (billV s r).exc := by
  obtain ⟨_, _, _, hi, hw⟩ := retB_yes hr
  have t := taxV_bd h hi; have w := mny_yes hw
  have p := prin_bd h hr
  refine ⟨t, p, pen_bd h p (lateI_nn r), ⟨?_, ?_⟩, ?_, ?_⟩ <;> simp only [billV, prinV] <;> omega
/-- A penalty is no less where it is later. -/
theorem pen_mono {s : Sch} (h : OkS s) {p l l' : Int} (hp : 0 ≤ p ∧ p ≤ 1125899906842624) (hl : 0 ≤ l) (hll : l ≤ l') : penV s p l ≤ penV s p l' := by
  have h1 := pen_bd h hp (show 0 ≤ l' by omega)
  unfold penV at *
  by_cases hc : 0 < p ∧ 0 < l
  · rw [if_pos hc]
    rw [if_pos ⟨hc.1, by omega⟩] at h1 ⊢
    have h2 : s.lbp * min l s.most ≤ s.lbp * min l' s.most := Int.mul_le_mul_of_nonneg_left (by omega) h.2.1.1
    have h3 : p * (s.lbp * min l s.most) ≤ p * (s.lbp * min l' s.most) := Int.mul_le_mul_of_nonneg_left h2 hp.1
    have h4 := Int.ediv_le_ediv (show (0 : Int) < 10000 by omega) h3
    omega
  · rw [if_neg hc]; exact h1.1
theorem late_mono {r r' : Ret} (hd : r'.due = r.due) (hr : retB r = true) (hr' : retB r' = true) (hf : r.filed ≤ r'.filed) : lateI r ≤ lateI r' := by
  obtain ⟨_, d1, f1, _, _⟩ := retB_yes hr
  obtain ⟨_, _, f2, _, _⟩ := retB_yes hr'
  have := dayB_yes d1; have := dayB_yes f1; have := dayB_yes f2
  unfold lateI
  rw [hd]
  have := lateD_mono (due := r.due.toNat) (a := r.filed.toNat) (b := r'.filed.toNat) (by omega) (by omega) (by omega) (by omega)
  omega
theorem late_none {r : Ret} (h : r.filed ≤ r.due) : lateI r = 0 := by unfold lateI lateD; rw [if_pos (by omega)]; rfl
/-- What an amended return adds. -/
noncomputable def changeS (s : Sch) (a b : Ret) : Bl × Int :=
  if okS s && retB a && retB b then (if a.per ≠ b.per ∨ b.filed < a.filed then (Bl.zero, 10) else ((billV s { b with due := a.due, filed := a.filed }).sub (billV s a), 0)) else (Bl.zero, 1)
theorem retB_moved {a b : Ret} (ha : retB a = true) (hb : retB b = true) : retB { b with due := a.due, filed := a.filed } = true := by
  obtain ⟨p1, d1, f1, _, _⟩ := retB_yes ha
  obtain ⟨p2, _, _, i2, w2⟩ := retB_yes hb
  simp only [retB, d1, f1, i2, w2, Bool.and_true, decide_eq_true_eq]
  exact p2
end Go.Proofs.Ytilcgpaefkapaaa
