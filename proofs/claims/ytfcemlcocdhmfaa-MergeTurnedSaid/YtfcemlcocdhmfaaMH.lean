/- A heap, in plain words: what a step up and a step down leave. -/
import Derived.Test.YtfcemlcocdhmfaaW
namespace Go.Proofs.Ytfcemlcocdhmfaa
set_option linter.unusedVariables false
set_option linter.unusedSimpArgs false

structure LO {β : Type} (L : β → β → Prop) : Prop where
  asymm : ∀ a b, L a b → ¬ L b a
  ntrans : ∀ a b c, ¬ L a b → ¬ L b c → ¬ L a c
def swp {β : Type} (f : Nat → β) (i j : Nat) : Nat → β := fun k => if k = i then f j else if k = j then f i else f k
section
variable {β : Type} {L : β → β → Prop}
/-- A heap of n. -/
def Hp (L : β → β → Prop) (f : Nat → β) (n : Nat) : Prop := ∀ j, 0 < j → j < n → ¬ L (f j) (f ((j - 1) / 2))
/-- A heap, but for i against its children. -/
structure HpD (L : β → β → Prop) (f : Nat → β) (n i : Nat) : Prop where
  one : ∀ j, 0 < j → j < n → (j - 1) / 2 ≠ i → ¬ L (f j) (f ((j - 1) / 2))
  two : ∀ j, 0 < j → j < n → (j - 1) / 2 = i → 0 < i → ¬ L (f j) (f ((i - 1) / 2))
/-- A heap, but for j against what it hangs on. -/
structure HpU (L : β → β → Prop) (f : Nat → β) (n j : Nat) : Prop where
  one : ∀ k, 0 < k → k < n → k ≠ j → ¬ L (f k) (f ((k - 1) / 2))
  two : ∀ k, 0 < k → k < n → (k - 1) / 2 = j → 0 < j → ¬ L (f k) (f ((j - 1) / 2))
theorem Hp.min (O : LO L) {f : Nat → β} {n : Nat} (h : Hp L f n) : ∀ k, k < n → k ≠ 0 → ¬ L (f k) (f 0) := by
  intro k
  induction k using Nat.strongRecOn with
  | _ k ih =>
    intro hk h0
    have h1 := h k (by omega) hk
    by_cases h2 : (k - 1) / 2 = 0
    · rwa [h2] at h1
    · exact O.ntrans _ _ _ h1 (ih ((k - 1) / 2) (by omega) (by omega) h2)
theorem Hp.toD {f : Nat → β} {n : Nat} (h : Hp L f n) : HpD L f n 0 := ⟨fun j h0 hj _ => h j h0 hj, fun j _ _ _ h0 => by omega⟩
/-- A heap whose first one was changed. -/
theorem Hp.first {f g : Nat → β} {n m : Nat} (h : Hp L f n) (hm : m ≤ n) (hg : ∀ k, 0 < k → k < m → g k = f k) : HpD L g m 0 :=
  ⟨fun j h0 hj hne => by rw [hg j h0 hj, hg _ (by omega) (by omega)]; exact h j h0 (by omega), fun j _ _ _ h0 => by omega⟩
theorem Hp.push {f g : Nat → β} {n : Nat} (h : Hp L f n) (hg : ∀ k, k < n → g k = f k) : HpU L g (n + 1) n :=
  ⟨fun k h0 hk hne => by rw [hg k (by omega), hg _ (by omega)]; exact h k h0 (by omega), fun k h0 hk hp hn => by omega⟩
theorem HpU.zero {f : Nat → β} {n : Nat} (h : HpU L f n 0) : Hp L f n := fun j h0 hj => h.one j h0 hj (by omega)
theorem HpU.stop {f : Nat → β} {n j : Nat} (h : HpU L f n j) (hs : ¬ L (f j) (f ((j - 1) / 2))) : Hp L f n := fun k h0 hk => by
  by_cases e : k = j
  · subst e; exact hs
  · exact h.one k h0 hk e
theorem HpU.step (O : LO L) {f : Nat → β} {n j : Nat} (h : HpU L f n j) (hj : 0 < j) (hjn : j < n) (hs : L (f j) (f ((j - 1) / 2))) : HpU L (swp f ((j - 1) / 2) j) n ((j - 1) / 2) := by
  obtain ⟨i, hi⟩ : ∃ i, (j - 1) / 2 = i := ⟨_, rfl⟩
  rw [hi] at hs ⊢
  have hij : i < j := by omega
  constructor
  · intro k h0 hk hne
    unfold swp
    rw [if_neg hne]
    by_cases e : k = j
    · subst e
      rw [if_pos rfl, hi, if_pos rfl]
      exact O.asymm _ _ hs
    · rw [if_neg e]
      by_cases e2 : (k - 1) / 2 = i
      · rw [e2, if_pos rfl]
        have h1 := h.one k h0 hk e
        rw [e2] at h1
        exact O.ntrans _ _ _ h1 (O.asymm _ _ hs)
      · rw [if_neg e2]
        by_cases e3 : (k - 1) / 2 = j
        · rw [if_pos e3]
          have := h.two k h0 hk e3 hj
          rwa [hi] at this
        · rw [if_neg e3]; exact h.one k h0 hk e
  · intro k h0 hk hp hi0
    unfold swp
    have e4 : (i - 1) / 2 ≠ i := by omega
    have e5 : (i - 1) / 2 ≠ j := by omega
    rw [if_neg e4, if_neg e5, if_neg (by omega)]
    have h2 := h.one i hi0 (by omega) (by omega)
    by_cases e : k = j
    · rw [if_pos e]; exact h2
    · rw [if_neg e]
      have h1 := h.one k h0 hk e
      rw [hp] at h1
      exact O.ntrans _ _ _ h1 h2
/-- No child. -/
theorem HpD.leaf {f : Nat → β} {n i : Nat} (h : HpD L f n i) (hn : n ≤ 2 * i + 1) : Hp L f n := fun j h0 hj => h.one j h0 hj (by omega)
/-- The least child is c; it is no less. -/
theorem HpD.stop (O : LO L) {f : Nat → β} {n i c : Nat} (h : HpD L f n i) (hmin : ∀ k, 0 < k → k < n → (k - 1) / 2 = i → ¬ L (f k) (f c)) (hs : ¬ L (f c) (f i)) : Hp L f n := fun j h0 hj => by
  by_cases e : (j - 1) / 2 = i
  · rw [e]; exact O.ntrans _ _ _ (hmin j h0 hj e) hs
  · exact h.one j h0 hj e
theorem HpD.step (O : LO L) {f : Nat → β} {n i c : Nat} (h : HpD L f n i) (hc : 0 < c) (hcn : c < n) (hp : (c - 1) / 2 = i) (hmin : ∀ k, 0 < k → k < n → (k - 1) / 2 = i → ¬ L (f k) (f c)) (hs : L (f c) (f i)) : HpD L (swp f i c) n c := by
  have hic : i < c := by omega
  constructor
  · intro k h0 hk hne
    unfold swp
    rw [if_neg hne]
    by_cases e : (k - 1) / 2 = i
    · rw [if_pos e, if_neg (show k ≠ i by omega)]
      by_cases e2 : k = c
      · rw [if_pos e2]; exact O.asymm _ _ hs
      · rw [if_neg e2]; exact hmin k h0 hk e
    · rw [if_neg e]
      by_cases e2 : k = i
      · rw [if_pos e2]
        have := h.two c hc hcn hp (by omega)
        rwa [e2]
      · rw [if_neg e2]
        have e3 : k ≠ c := fun e3 => e (by rw [e3]; exact hp)
        rw [if_neg e3]
        exact h.one k h0 hk e
  · intro k h0 hk hpc _
    unfold swp
    rw [hp, if_pos rfl, if_neg (show k ≠ i by omega), if_neg (show k ≠ c by omega)]
    have := h.one k h0 hk (by omega)
    rwa [hpc] at this
/-- Of two children the lesser one. -/
theorem child_left {f : Nat → β} {n i : Nat} (h : n ≤ 2 * i + 2 ∨ ¬ L (f (2 * i + 2)) (f (2 * i + 1))) (O : LO L) : ∀ k, 0 < k → k < n → (k - 1) / 2 = i → ¬ L (f k) (f (2 * i + 1)) := fun k h0 hk hp => by
  have : k = 2 * i + 1 ∨ k = 2 * i + 2 := by omega
  rcases this with rfl | rfl
  · exact fun h1 => O.asymm _ _ h1 h1
  · rcases h with h | h
    · omega
    · exact h
theorem child_right {f : Nat → β} {n i : Nat} (h : L (f (2 * i + 2)) (f (2 * i + 1))) (O : LO L) : ∀ k, 0 < k → k < n → (k - 1) / 2 = i → ¬ L (f k) (f (2 * i + 2)) := fun k h0 hk hp => by
  have : k = 2 * i + 1 ∨ k = 2 * i + 2 := by omega
  rcases this with rfl | rfl
  · exact O.asymm _ _ h
  · exact fun h1 => O.asymm _ _ h1 h1
end
end Go.Proofs.Ytfcemlcocdhmfaa
