/- Paying items, in plain words: rises, sums, parts. -/
import Derived.Test.YtcoeooakimbkbaaAW6
namespace Go.Proofs.Ytcoeooakimbkbaa
set_option linter.unusedVariables false
set_option linter.unusedSimpArgs false

theorem rise_exP {its : List Dq} (hn : (its.map keyI).Nodup) : ∃ d, Pl its.length d ∧ Rise its d := by
  let le : Int → Int → Bool := fun x y => decide (keyI (its.getD x.toNat ⟨0, 0, 0, 0⟩) ≤ keyI (its.getD y.toNat ⟨0, 0, 0, 0⟩))
  have hp : ((upTo its.length).mergeSort le).Perm (upTo its.length) := List.mergeSort_perm _ _
  have hpl : Pl its.length ((upTo its.length).mergeSort le) := hp
  refine ⟨_, hpl, ?_⟩
  have hs := List.pairwise_mergeSort (le := le) (fun a b c h1 h2 => by simp only [le, decide_eq_true_eq] at *; omega) (fun a b => by simp only [le, Bool.or_eq_true, decide_eq_true_eq]; omega) (upTo its.length)
  have h1 : (inOrd its ((upTo its.length).mergeSort le)).Pairwise fun a b => ¬ keyI b < keyI a := by
    unfold inOrd
    rw [List.pairwise_map]
    exact hs.imp fun h => by simp only [le, decide_eq_true_eq] at h; omega
  refine rise_of h1 fun k hk e => ?_
  exact not_nodup hpl hk e hn
theorem payE_okP {its : List Dq} {a : Int} (h : payE its a = 0) : (0 ≤ a ∧ a ≤ 4611686018427387904) ∧ placesE its = 0 := by
  unfold payE at h
  by_cases h1 : 0 ≤ a ∧ a ≤ 4611686018427387904
  · rw [if_pos h1] at h; exact ⟨h1, h⟩
  · rw [if_neg h1] at h; omega
theorem payL_lenP (its : List Dq) (a : Int) : (payL its a).length = its.length := by simp [payL]
theorem payL_atP (its : List Dq) (a : Int) (k : Nat) (h : k < its.length) : (payL its a)[k]'(by rw [payL_lenP]; exact h) = paidI its a its[k] := by simp [payL]
theorem pay_sumP {its : List Dq} {a : Int} (h : payE its a = 0) : (payL its a).sum = a - leftI its a := by
  obtain ⟨h1, h2⟩ := payE_okP h
  obtain ⟨_, hok, hnd⟩ := placesE_ok h2
  obtain ⟨d, hpd, hri⟩ := rise_exP hnd
  exact paidSum hok hpd hri h1.1
theorem pay_bdP {its : List Dq} {a : Int} (h : payE its a = 0) (k : Nat) (hk : k < its.length) :
    0 ≤ (payL its a)[k]'(by rw [payL_lenP]; exact hk) ∧ (payL its a)[k]'(by rw [payL_lenP]; exact hk) ≤ its[k].opn := by
  obtain ⟨h1, h2⟩ := payE_okP h
  obtain ⟨_, hok, hnd⟩ := placesE_ok h2
  rw [payL_atP _ _ _ hk]; exact paid_bd hok (List.getElem_mem hk)
end Go.Proofs.Ytcoeooakimbkbaa
