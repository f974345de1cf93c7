/- Items out of shares, in plain words. -/
import Derived.Test.YtcoeooakimbkbaaAP
import Derived.Test.YtcoeooakimbkbaaW3
namespace Go.Proofs.Ytcoeooakimbkbaa
set_option linter.unusedVariables false
set_option linter.unusedSimpArgs false

/-- A split's sum, and its parts. -/
theorem IsSplit.sum {a : Int} {ws l : List Int} (h : IsSplit a ws l) : l.sum = a := by
  obtain ⟨d, k, hp, hs, h1, h2, rfl⟩ := h
  rw [topS_sum hp (quoS_len _ _ _) k (by omega)]; omega
theorem IsSplit.len {a : Int} {ws l : List Int} (h : IsSplit a ws l) : l.length = ws.length := by
  obtain ⟨d, k, hp, hs, h1, h2, rfl⟩ := h
  rw [topS_len, quoS_len]
theorem IsSplit.nonneg {a : Int} {ws l : List Int} (h : IsSplit a ws l) (ha : 0 ≤ a) (hw : ∀ x ∈ ws, 0 ≤ x) (hT : 0 < ws.sum) : ∀ x ∈ l, 0 ≤ x := by
  obtain ⟨d, k, hp, hs, h1, h2, rfl⟩ := h
  intro x hx
  obtain ⟨i, hi, rfl⟩ := List.mem_iff_getElem.1 hx
  have hq : i < (quoS a ws.sum ws).length := by rw [topS_len] at hi; exact hi
  have hw' : i < ws.length := by rw [quoS_len] at hq; exact hq
  rw [topS_at _ _ _ _ hq]
  have e : (quoS a ws.sum ws)[i] = a * ws[i] / ws.sum := by simp [quoS]
  have h3 : 0 ≤ a * ws[i] / ws.sum := Int.ediv_nonneg (Int.mul_nonneg ha (hw _ (List.getElem_mem hw'))) (by omega)
  rw [e]; split <;> omega
/-- The items of shares. -/
def shI (l : List Int) : List Dq := l.mapIdx fun i x => ⟨100 + i, (i % 3 : Nat), 1 + i, x⟩
theorem shI_len (l : List Int) : (shI l).length = l.length := by simp [shI]
theorem shI_at (l : List Int) (i : Nat) (h : i < l.length) : (shI l)[i]'(by rw [shI_len]; exact h) = ⟨100 + i, (i % 3 : Nat), 1 + i, l[i]⟩ := by simp [shI]
theorem shI_take (l : List Int) (k : Nat) (h : k < l.length) : shI (l.take (k + 1)) = shI (l.take k) ++ [⟨100 + k, (k % 3 : Nat), 1 + k, l[k]⟩] := by
  apply List.ext_getElem (by simp [shI]; omega)
  intro i h1 h2
  by_cases hi : i < k
  · rw [List.getElem_append_left (by simp [shI]; omega)]
    simp [shI]
  · have : i = k := by simp [shI] at h1; omega
    subst this
    rw [List.getElem_append_right (by simp [shI]; omega)]
    simp [shI]
theorem shI_opn (l : List Int) : (shI l).map Dq.opn = l := by
  apply List.ext_getElem (by simp [shI])
  intro i h1 h2; simp [shI]
theorem shI_opens (l : List Int) : opens (shI l) = l.sum := by unfold opens; rw [shI_opn]
theorem shI_places {l : List Int} (hl : l.length ≤ 60) (h : ∀ x ∈ l, 0 ≤ x ∧ x ≤ 4611686018427387904) : placesE (shI l) = 0 := by
  have hok : (shI l).all okI = true := by
    rw [List.all_eq_true]
    intro x hx
    obtain ⟨i, hi, rfl⟩ := List.mem_iff_getElem.1 hx
    have hi' : i < l.length := by rw [shI_len] at hi; exact hi
    rw [shI_at _ _ hi']
    have := h _ (List.getElem_mem hi')
    simp only [okI, decide_eq_true_eq]
    omega
  refine placesE_yes (by rw [shI_len]; omega) hok (nodup_of fun i j hi hj => ?_)
  have hi' : i < l.length := by rw [shI_len] at hi; exact hi
  rw [shI_at _ _ hi', shI_at _ _ (by omega)]
  unfold keyI
  simp only
  omega
theorem split_two {l : List Int} (h : IsSplit 2 [1, 1] l) : l = [1, 1] := by
  obtain ⟨d, k, hp, hs, h1, h2, rfl⟩ := h
  have e : quoS 2 [1, 1].sum [1, 1] = [1, 1] := by decide
  rw [e] at h1 ⊢
  have : k = 0 := by simp at h1; omega
  subst this; rw [topS_zero]
theorem sum_all {l : List Int} (h : ∀ x ∈ l, 0 ≤ x) {a : Int} (hs : l.sum = a) (ha : a ≤ 4611686018427387904) : sumS l = (a, 0) := by
  have h1 : l.all amt = true := List.all_eq_true.2 fun x hx => by
    have := le_sum h hx; have := h x hx
    simp [amt]; omega
  have h0 := sum_nonneg h
  unfold sumS; rw [if_pos h1, hs]; exact told_yes (by simp [amt]; omega)
end Go.Proofs.Ytcoeooakimbkbaa
