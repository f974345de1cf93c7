/- A split's parts are amounts: whoever gets one more has a rest. -/
import Derived.Test.YtjimahagfkpacaaW2
namespace Go.Proofs.Ytjimahagfkpacaa
set_option linter.unusedVariables false
set_option linter.unusedSimpArgs false

theorem perm_sumW {a b : List Int} (h : a.Perm b) : a.sum = b.sum := by
  induction h with
  | nil => rfl
  | cons x _ ih => simp [ih]
  | swap x y l => simp; omega
  | trans _ _ h1 h2 => exact h1.trans h2
theorem sum_over {r d : List Int} {n : Nat} (hp : Pl n d) (hn : r.length = n) : (d.map fun x => gt r x.toNat).sum = r.sum := by
  rw [perm_sumW (hp.map _), List.map_map]
  congr 1
  apply List.ext_getElem (by simp [hn])
  intro i h1 h2
  simp only [List.getElem_map, List.getElem_range, Function.comp]
  rw [Int.toNat_natCast, gt_eq _ _ h2]
/-- Whoever gets one more has a rest. -/
theorem top_rest {a T : Int} {ws d : List Int} {k : Nat} (hT : 0 < T) (hs : ws.sum = T) (hp : Pl ws.length d) (hsr : Srt (fun x => gt (rstS a T ws) x.toNat) 0 ws.length d) (hk : a - (quoS a T ws).sum = k) (hkn : k < ws.length)
    {j : Nat} (hj : j < k) : 0 < gt (rstS a T ws) (gt d j).toNat := by
  apply Int.lt_of_not_ge
  intro hle
  have hr : (rstS a T ws).sum = T * k := by
    have := sums (a := a) (T := T) ws
    rw [hs] at this
    have e : T * (a - (quoS a T ws).sum) = T * k := by rw [hk]
    rw [Int.mul_sub] at e
    have := Int.mul_comm a T
    omega
  have hl := hp.len
  have h1 := sum_over (r := rstS a T ws) hp (rstS_len _ _ _)
  have h2 : ((d.take j).map fun x => gt (rstS a T ws) x.toNat).sum ≤ (T - 1) * ((d.take j).map fun x => gt (rstS a T ws) x.toNat).length := by
    refine sum_bound fun x hx => ?_
    obtain ⟨y, hy, rfl⟩ := List.mem_map.1 hx
    obtain ⟨t, ht, hty⟩ := List.mem_map.1 (hp.mem_iff.1 (List.mem_of_mem_take hy))
    subst hty
    have ht' : t < (rstS a T ws).length := by rw [rstS_len]; simpa using ht
    rw [Int.toNat_natCast, gt_eq _ _ ht']
    simp only [rstS, List.getElem_map]
    have := Int.emod_lt_of_pos (a * ws[t]'(by simpa using ht)) hT
    omega
  have h3 : ((d.drop j).map fun x => gt (rstS a T ws) x.toNat).sum ≤ 0 * ((d.drop j).map fun x => gt (rstS a T ws) x.toNat).length := by
    refine sum_bound fun x hx => ?_
    obtain ⟨y, hy, rfl⟩ := List.mem_map.1 hx
    obtain ⟨t, ht, hty⟩ := List.mem_iff_getElem.1 hy
    rw [List.getElem_drop] at hty
    have ht2 : j + t < d.length := by rw [List.length_drop] at ht; omega
    have e : y = gt d (j + t) := by rw [gt_eq _ _ ht2]; exact hty.symm
    by_cases h0 : t = 0
    · subst h0; rw [e]; exact hle
    · have := hsr j (j + t) (by omega) (by omega) (by omega)
      unfold Rk at this
      rw [e]
      simp only at this
      omega
  have h4 : ((d.take j).map fun x => gt (rstS a T ws) x.toNat).sum + ((d.drop j).map fun x => gt (rstS a T ws) x.toNat).sum = (rstS a T ws).sum := by
    rw [← h1, ← List.sum_append, ← List.map_append, List.take_append_drop]
  have h5 : ((d.take j).map fun x => gt (rstS a T ws) x.toNat).length = j := by simp; omega
  rw [h5] at h2
  have h6 : T * ((j : Int) + 1) ≤ T * k := Int.mul_le_mul_of_nonneg_left (by omega) (by omega)
  rw [Int.mul_add, Int.mul_one] at h6
  rw [Int.sub_mul, Int.one_mul] at h2
  omega
theorem IsSplit.partsW {a : Int} {ws l : List Int} (h : IsSplit a ws l) (ha : amt a = true) (hw : ∀ x ∈ ws, 0 ≤ x) (hT : 0 < ws.sum) (i : Nat) (hi : i < ws.length) :
    ∃ hl : i < l.length, (l[i] = a * ws[i] / ws.sum ∨ l[i] = a * ws[i] / ws.sum + 1) ∧ -4611686018427387904 ≤ l[i] ∧ l[i] ≤ 4611686018427387904 := by
  obtain ⟨d, k, hp, hs, h1, h2, rfl⟩ := h
  have hA := amt_yes ha
  have hq : i < (quoS a ws.sum ws).length := by rw [quoS_len]; exact hi
  refine ⟨by rw [topS_len]; exact hq, ?_⟩
  have e : (quoS a ws.sum ws)[i] = a * ws[i] / ws.sum := by simp [quoS]
  have hwi := hw ws[i] (List.getElem_mem hi)
  have hle := le_sum hw (List.getElem_mem hi)
  have hb := quo_bound hT hwi hle hA
  rw [topS_at _ _ _ _ hq, e]
  by_cases hm : (i : Int) ∈ d.take k
  · rw [if_pos hm]
    refine ⟨.inr rfl, by omega, ?_⟩
    obtain ⟨j, hj, hjd⟩ := List.mem_iff_getElem.1 hm
    have hjk : j < k := by rw [List.length_take] at hj; omega
    have hr := top_rest hT rfl hp hs h1 h2 hjk
    have hjl : j < d.length := by rw [List.length_take] at hj; omega
    rw [List.getElem_take] at hjd
    have hir : i < (rstS a ws.sum ws).length := by rw [rstS_len]; exact hi
    rw [gt_eq d j hjl, hjd, Int.toNat_natCast, gt_eq _ _ hir] at hr
    have er : (rstS a ws.sum ws)[i] = a * ws[i] % ws.sum := by simp [rstS]
    rw [er] at hr
    have hde := Int.mul_ediv_add_emod (a * ws[i]) ws.sum
    have h3 : a * ws[i] ≤ 4611686018427387904 * ws.sum := Int.le_trans (Int.mul_le_mul_of_nonneg_right hA.2 hwi) (Int.mul_le_mul_of_nonneg_left hle (by omega))
    have h4 : ws.sum * (a * ws[i] / ws.sum) < ws.sum * 4611686018427387904 := by rw [Int.mul_comm ws.sum 4611686018427387904]; omega
    have := Int.lt_of_mul_lt_mul_left h4 (by omega)
    omega
  · rw [if_neg hm]
    exact ⟨.inl rfl, by omega, by omega⟩
theorem IsSplit.sumW {a : Int} {ws l : List Int} (h : IsSplit a ws l) (ha : amt a = true) (hw : ∀ x ∈ ws, 0 ≤ x) (hT : 0 < ws.sum) : l.length = ws.length ∧ sumS l = (a, 0) := by
  have hlen : l.length = ws.length := by
    obtain ⟨d, k, hp, hs, h1, h2, rfl⟩ := h
    rw [topS_len, quoS_len]
  have hsum : l.sum = a := by
    obtain ⟨d, k, hp, hs, h1, h2, rfl⟩ := h
    rw [topS_sum hp (quoS_len _ _ _) k (by omega)]; omega
  have hall : l.all amt = true := List.all_eq_true.2 fun x hx => by
    obtain ⟨i, hi, rfl⟩ := List.mem_iff_getElem.1 hx
    obtain ⟨_, _, h1, h2⟩ := h.partsW ha hw hT i (by omega)
    simp [amt]; omega
  refine ⟨hlen, ?_⟩
  unfold sumS; rw [if_pos hall, hsum]; exact told_yes ha
end Go.Proofs.Ytjimahagfkpacaa
