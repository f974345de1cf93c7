/- Codes of numbers, in plain words. -/
import Derived.Test.YtbjjgnaojoaoiaaGreatK48
namespace Go.Proofs.YtbjjgnaojoaoiaaGreat
set_option linter.unusedVariables false
set_option linter.unusedSimpArgs false

/-- What the bytes of a row tell so far. -/
def valB (l : List Nat) : Nat := l.foldl (fun a c => a * 128 + c % 128) 0
theorem valB_snoc (l : List Nat) (c : Nat) : valB (l ++ [c]) = valB l * 128 + c % 128 := by simp [valB]
/-- The leading digits of a number that more follow. -/
def headB (n : Nat) : List Nat := (tailB n).reverse
theorem headB_pos {n : Nat} (h : 0 < n) : headB n = headB (n / 128) ++ [n % 128 + 128] := by unfold headB; rw [tailB_pos h]; simp
theorem headB_zero : headB 0 = [] := by unfold headB; rw [tailB_zero]; rfl
theorem numB_eq (n : Nat) : numB n = headB (n / 128) ++ [n % 128] := by unfold numB headB; simp
theorem headB_ind {P : Nat → Prop} (h0 : P 0) (h1 : ∀ n, 0 < n → P (n / 128) → P n) (n : Nat) : P n := by
  induction n using Nat.strongRecOn with
  | ind n ih =>
    by_cases h : n = 0
    · subst h; exact h0
    · exact h1 n (by omega) (ih _ (by omega))
theorem headB_val (n : Nat) : valB (headB n) = n := by
  refine headB_ind (P := fun n => valB (headB n) = n) (by rw [headB_zero]; rfl) (fun n h ih => ?_) n
  rw [headB_pos h, valB_snoc, ih]; omega
theorem headB_take {n k : Nat} (h : k ≤ (headB n).length) : valB ((headB n).take k) ≤ n := by
  refine headB_ind (P := fun n => ∀ k, k ≤ (headB n).length → valB ((headB n).take k) ≤ n) (fun k hk => ?_) (fun n h ih k hk => ?_) n k h
  · rw [headB_zero]; simp [valB]
  · rw [headB_pos h] at hk ⊢
    by_cases hk2 : k ≤ (headB (n / 128)).length
    · rw [List.take_append_of_le_length hk2]
      have := ih k hk2; omega
    · have e : k = (headB (n / 128) ++ [n % 128 + 128]).length := by simp at hk ⊢; omega
      rw [e, List.take_length, ← headB_pos h, headB_val]; exact Nat.le_refl _
theorem headB_at {n k : Nat} (h : k < (headB n).length) : 128 ≤ (headB n)[k] ∧ (headB n)[k] < 256 ∧ (k = 0 → 128 < (headB n)[k]) := by
  refine headB_ind (P := fun n => ∀ k (h : k < (headB n).length), 128 ≤ (headB n)[k] ∧ (headB n)[k] < 256 ∧ (k = 0 → 128 < (headB n)[k])) (fun k hk => ?_) (fun n h ih k hk => ?_) n k h
  · exfalso; rw [headB_zero] at hk; simp at hk
  · have hl : (headB n).length = (headB (n / 128)).length + 1 := by rw [headB_pos h]; simp
    have e : ∀ (l : List Nat) (hl : headB n = l) (hk2 : k < l.length), (headB n)[k] = l[k] := by intro l hl hk2; subst hl; rfl
    have hk2 : k < (headB (n / 128) ++ [n % 128 + 128]).length := by simp; omega
    rw [e _ (headB_pos h) hk2]
    by_cases hk3 : k < (headB (n / 128)).length
    · rw [List.getElem_append_left hk3]; exact ih k hk3
    · rw [List.getElem_append_right (by omega)]
      simp only [List.getElem_singleton]
      refine ⟨by omega, by omega, fun h0 => ?_⟩
      subst h0
      have h3 : (headB (n / 128)).length = 0 := by omega
      have h4 : n / 128 = 0 := by
        have := headB_val (n / 128)
        rw [List.length_eq_zero_iff.1 h3] at this
        simpa [valB] using this.symm
      omega
theorem headB_take_lt {n k : Nat} (h : k < (headB n).length) : valB ((headB n).take k) ≤ n / 128 := by
  have h0 : 0 < n := by
    rcases Nat.eq_zero_or_pos n with rfl | h0
    · rw [headB_zero] at h; simp at h
    · exact h0
  have hl : (headB n).length = (headB (n / 128)).length + 1 := by rw [headB_pos h0]; simp
  rw [headB_pos h0, List.take_append_of_le_length (by omega)]
  exact headB_take (by omega)
theorem headB_len : ∀ (j n : Nat), n < 128 ^ j → (headB n).length ≤ j
  | 0, n, h => by
    have : n = 0 := by simpa using h
    subst this; rw [headB_zero]; simp
  | j + 1, n, h => by
    rcases Nat.eq_zero_or_pos n with rfl | h0
    · rw [headB_zero]; simp
    · rw [headB_pos h0]
      have := headB_len j (n / 128) (by rw [Nat.pow_succ] at h; omega)
      simp; omega
theorem numB_len {n : Nat} (h : n < 18446744073709551616) : (numB n).length ≤ 10 := by
  rw [numB_eq]
  have := headB_len 9 (n / 128) (by omega)
  simp; omega
theorem numB_pos (n : Nat) : 0 < (numB n).length := by rw [numB_eq]; simp
theorem numB_small {n : Nat} : ∀ x ∈ numB n, x < 256 := by
  intro x hx
  rw [numB_eq] at hx
  rcases List.mem_append.1 hx with hx | hx
  · obtain ⟨i, hi, rfl⟩ := List.mem_iff_getElem.1 hx
    exact (headB_at hi).2.1
  · simp at hx; omega

/-- Numbers as their codes, one behind the other. -/
def numsB (l : List Int) : List Nat := l.flatMap fun n => numB n.toNat
theorem numsB_app (a b : List Int) : numsB (a ++ b) = numsB a ++ numsB b := by simp [numsB]
theorem numsB_cons (a : Int) (b : List Int) : numsB (a :: b) = numB a.toNat ++ numsB b := by simp [numsB]
theorem numsB_nil : numsB [] = [] := rfl
/-- A number that has a code of ten bytes at most. -/
def okN (n : Int) : Prop := 0 ≤ n ∧ n < 18446744073709551616
theorem numsB_len {l : List Int} (h : ∀ n ∈ l, okN n) : (numsB l).length ≤ l.length * 10 := by
  induction l with
  | nil => simp [numsB]
  | cons n l ih =>
    have h1 := h n (by simp)
    have h2 := numB_len (n := n.toNat) (by unfold okN at h1; omega)
    have h3 := ih fun m hm => h m (by simp [hm])
    rw [numsB_cons, List.length_append, List.length_cons, Nat.succ_mul]; omega
theorem numsB_small {l : List Int} : ∀ x ∈ numsB l, x < 256 := by
  intro x hx
  unfold numsB at hx
  obtain ⟨n, _, hx⟩ := List.mem_flatMap.1 hx
  exact numB_small x hx
end Go.Proofs.YtbjjgnaojoaoiaaGreat
