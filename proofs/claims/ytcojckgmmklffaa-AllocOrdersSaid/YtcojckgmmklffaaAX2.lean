/- The reference's Pay. -/
import Derived.Test.YtcojckgmmklffaaAX1
import Derived.Test.YtcojckgmmklffaaAW5
namespace Go.Proofs.Ytcojckgmmklffaa
open Go.RowKit Go
set_option linter.unusedVariables false
set_option linter.unusedSimpArgs false

theorem info_bool : (Try.prog.info? 4).map (fun i => (i.zero, i.size, i.bytes)) = some (some (.bool false), 1, 1) := by kernel_rfl
def bls (l : List Bool) : List Value := l.map Value.bool
theorem bls_len (l : List Bool) : (bls l).length = l.length := by simp [bls]
theorem bls_at (l : List Bool) (k : Nat) (h : k < l.length) : (bls l)[k]? = some (.bool l[k]) := by simp [bls, h]
theorem bls_set (d : List Bool) (i : Nat) (v : Bool) : (bls d).toArray.setIfInBounds i (.bool v) = (bls (d.set i v)).toArray := by
  apply Array.ext'
  simp [bls, List.map_set]
theorem made_bls (n : Nat) : madeCells #[Value.bool false] n = (bls (List.replicate n false)).toArray := by
  apply Array.ext'
  unfold madeCells
  simp only [Array.toList_map, Array.toList_range, bls, List.map_replicate]
  apply List.ext_getElem (by simp)
  intro i h1 h2
  simp [Nat.mod_one]
/-- The first k of d are marked. -/
def doneTo (d : List Int) (n k : Nat) : List Bool := (List.range n).map fun (i : Nat) => decide ((i : Int) ∈ d.take k)
theorem doneTo_len (d : List Int) (n k : Nat) : (doneTo d n k).length = n := by simp [doneTo]
theorem doneTo_zero (d : List Int) (n : Nat) : doneTo d n 0 = List.replicate n false := by
  apply List.ext_getElem (by simp [doneTo])
  intro i h1 h2; simp [doneTo]
theorem doneTo_at (d : List Int) (n k i : Nat) (h : i < n) : (doneTo d n k)[i]'(by rw [doneTo_len]; exact h) = decide ((i : Int) ∈ d.take k) := by simp [doneTo]
theorem doneTo_step {d : List Int} {n k j : Nat} (h : k < d.length) (hj : d[k] = (j : Int)) (hjq : j < n) : doneTo d n (k + 1) = (doneTo d n k).set j true := by
  apply List.ext_getElem (by simp [doneTo])
  intro i h1 h2
  rw [List.getElem_set]
  simp only [doneTo, List.getElem_map, List.getElem_range, mem_take_succ h, hj]
  by_cases e : j = i
  · subst e; simp
  · have : ¬ ((i : Int) = (j : Int)) := by omega
    simp [e, this]
theorem getD_it {its : List Dq} {k : Nat} (h : k < its.length) : its.getD k ⟨0, 0, 0, 0⟩ = its[k] := by simp [h]
/-- The first one by the order among those of i places that are not marked; -1: all are. -/
def First (its : List Dq) (d : List Int) (k i : Nat) (b : Int) : Prop :=
  (b = -1 ∧ ∀ p : Nat, p < i → (p : Int) ∈ d.take k) ∨ (∃ j : Nat, b = j ∧ j < i ∧ (j : Int) ∉ d.take k ∧ ∀ p : Nat, p < i → p ≠ j → (p : Int) ∉ d.take k → keyI (its.getD j ⟨0, 0, 0, 0⟩) < keyI (its.getD p ⟨0, 0, 0, 0⟩))
theorem First.start (its : List Dq) (d : List Int) (k : Nat) : First its d k 0 (-1) := .inl ⟨rfl, fun p hp => by omega⟩
theorem First.marked {its : List Dq} {d : List Int} {k i : Nat} {b : Int} (h : First its d k i b) (hm : (i : Int) ∈ d.take k) : First its d k (i + 1) b := by
  rcases h with ⟨rfl, h⟩ | ⟨j, rfl, h1, h2, h3⟩
  · exact .inl ⟨rfl, fun p hp => by by_cases e : p = i; · subst e; exact hm
                                    · exact h p (by omega)⟩
  · exact .inr ⟨j, rfl, by omega, h2, fun p hp hne hu => by
      by_cases e : p = i
      · subst e; exact absurd hm hu
      · exact h3 p (by omega) hne hu⟩
theorem First.fresh {its : List Dq} {d : List Int} {k i : Nat} {b : Int} (h : First its d k i b) (hm : (i : Int) ∉ d.take k) (hb : b < 0 ∨ keyI (its.getD i ⟨0, 0, 0, 0⟩) < keyI (its.getD b.toNat ⟨0, 0, 0, 0⟩)) : First its d k (i + 1) i := by
  rcases h with ⟨rfl, h⟩ | ⟨j, rfl, h1, h2, h3⟩
  · exact .inr ⟨i, rfl, by omega, hm, fun p hp hne hu => absurd (h p (by omega)) hu⟩
  · refine .inr ⟨i, rfl, by omega, hm, fun p hp hne hu => ?_⟩
    have hb' : keyI (its.getD i ⟨0, 0, 0, 0⟩) < keyI (its.getD j ⟨0, 0, 0, 0⟩) := by
      rcases hb with h | h
      · omega
      · simpa using h
    by_cases e : p = j
    · subst e; exact hb'
    · have := h3 p (by omega) e hu; omega
theorem First.stays {its : List Dq} {d : List Int} {k i : Nat} {b : Int} (h : First its d k i b) (hn : (its.map keyI).Nodup) (hi : i < its.length) (h0 : 0 ≤ b) (hb : ¬ keyI (its.getD i ⟨0, 0, 0, 0⟩) < keyI (its.getD b.toNat ⟨0, 0, 0, 0⟩)) : First its d k (i + 1) b := by
  rcases h with ⟨rfl, h⟩ | ⟨j, rfl, h1, h2, h3⟩
  · omega
  · refine .inr ⟨j, rfl, by omega, h2, fun p hp hne hu => ?_⟩
    by_cases e : p = i
    · subst e
      rw [Int.toNat_natCast] at hb
      have : keyI (its.getD j ⟨0, 0, 0, 0⟩) ≠ keyI (its.getD p ⟨0, 0, 0, 0⟩) := fun e => by
        rw [getD_it hi, getD_it (show j < its.length by omega)] at e
        exact two_nodup (its := its) (by omega) hi (by omega) e hn
      omega
    · exact h3 p (by omega) hne hu
theorem First.is {its : List Dq} {d : List Int} {k : Nat} {b : Int} (h : First its d k its.length b) (hp : Pl its.length d) (hr : Rise its d) (hk : k < d.length) : b = d[k] := by
  have hl := hp.len
  have hno := nodup_take hp.nodup (k := k) hk
  obtain ⟨j0, e0, hj0⟩ := hp.at hk
  rw [e0] at hno ⊢
  rcases h with ⟨rfl, h⟩ | ⟨j, rfl, h1, h2, h3⟩
  · exact absurd (h j0 hj0) hno
  · by_cases e : j = j0
    · rw [e]
    · have h4 := h3 j0 hj0 (by omega) hno
      obtain ⟨t, ht, et⟩ := hp.all h1
      have htk : k < t := by
        rcases Nat.lt_trichotomy t k with h | h | h
        · exact absurd (List.mem_iff_getElem.2 ⟨t, by simp; omega, by rw [List.getElem_take]; exact et⟩) h2
        · subst h; rw [e0] at et; omega
        · exact h
      have h5 := List.pairwise_iff_getElem.1 hr k t (by rw [inOrd_len]; omega) (by rw [inOrd_len]; omega) htk
      rw [inOrd_at hk e0 hj0, inOrd_at ht et h1] at h5
      rw [getD_it h1, getD_it hj0] at h4
      omega
/-- There is a rising order. -/
theorem rise_ex {its : List Dq} (hn : (its.map keyI).Nodup) : ∃ d, Pl its.length d ∧ Rise its d := by
  let le : Int → Int → Bool := fun x y => decide (keyI (its.getD x.toNat ⟨0, 0, 0, 0⟩) ≤ keyI (its.getD y.toNat ⟨0, 0, 0, 0⟩))
  have hp : ((upTo its.length).mergeSort le).Perm (upTo its.length) := List.mergeSort_perm _ _
  have hpl : Pl its.length ((upTo its.length).mergeSort le) := hp
  refine ⟨_, hpl, ?_⟩
  have hs := List.pairwise_mergeSort (le := le) (fun a b c h1 h2 => by simp only [le, decide_eq_true_eq] at *; omega) (fun a b => by simp only [le, Bool.or_eq_true, decide_eq_true_eq]; omega) (upTo its.length)
  have h1 : (inOrd its ((upTo its.length).mergeSort le)).Pairwise fun a b => ¬ keyI b < keyI a := by
    unfold inOrd
    rw [List.pairwise_map]
    exact hs.imp fun h => by simp only [le, decide_eq_true_eq] at h; omega
  refine rise_of h1 fun k hk e => ?_
  exact not_nodup hpl hk e hn
end Go.Proofs.Ytcojckgmmklffaa
