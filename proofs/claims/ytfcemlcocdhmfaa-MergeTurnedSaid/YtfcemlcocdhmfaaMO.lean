/- The order of records and of runs, in plain words: a total order; what is not behind stays so. -/
import Derived.Test.YtfcemlcocdhmfaaHI
namespace Go.Proofs.Ytfcemlcocdhmfaa
set_option linter.unusedVariables false
set_option linter.unusedSimpArgs false

theorem cb_swap : ∀ a b : List UInt8, Lib.compareBytes b a = - Lib.compareBytes a b
  | [], [] => rfl
  | [], _ :: _ => rfl
  | _ :: _, [] => rfl
  | x :: a, y :: b => by
    unfold Lib.compareBytes
    have h := cb_swap a b
    simp only [UInt8.lt_iff_toNat_lt, gt_iff_lt]
    by_cases h1 : x.toNat < y.toNat
    · have h2 : ¬ y.toNat < x.toNat := by omega
      simp [h1, h2]
    · by_cases h2 : y.toNat < x.toNat
      · simp [h1, h2]
      · simp [h1, h2, h]
theorem cb_trans : ∀ a b c : List UInt8, Lib.compareBytes a b < 0 → Lib.compareBytes b c < 0 → Lib.compareBytes a c < 0
  | [], [], c, h, _ => by simp [Lib.compareBytes] at h
  | [], _ :: _, [], _, h => by simp [Lib.compareBytes] at h
  | [], _ :: _, _ :: _, _, _ => by simp [Lib.compareBytes]
  | _ :: _, [], c, h, _ => by simp [Lib.compareBytes] at h
  | _ :: _, _ :: _, [], _, h => by simp [Lib.compareBytes] at h
  | x :: a, y :: b, z :: c, h1, h2 => by
    have ih := cb_trans a b c
    unfold Lib.compareBytes at h1 h2 ⊢
    simp only [UInt8.lt_iff_toNat_lt, gt_iff_lt] at h1 h2 ⊢
    by_cases a1 : x.toNat < y.toNat
    · by_cases b1 : y.toNat < z.toNat
      · rw [if_pos (by omega)]; decide
      · rw [if_neg b1] at h2
        by_cases b2 : z.toNat < y.toNat
        · rw [if_pos b2] at h2; simp at h2
        · rw [if_pos (by omega)]; decide
    · rw [if_neg a1] at h1
      by_cases a2 : y.toNat < x.toNat
      · rw [if_pos a2] at h1; simp at h1
      · rw [if_neg a2] at h1
        by_cases b1 : y.toNat < z.toNat
        · rw [if_pos (by omega)]; decide
        · rw [if_neg b1] at h2
          by_cases b2 : z.toNat < y.toNat
          · rw [if_pos b2] at h2; simp at h2
          · rw [if_neg b2] at h2
            rw [if_neg (by omega), if_neg (by omega)]
            exact ih h1 h2
theorem ci_lt (x y : Int) : Lib.compareInt x y < 0 ↔ x < y := by
  unfold Lib.compareInt; by_cases h : x < y <;> by_cases h2 : x > y <;> simp [h, h2]
theorem ci_gt (x y : Int) : 0 < Lib.compareInt x y ↔ y < x := by
  unfold Lib.compareInt; by_cases h : x < y <;> by_cases h2 : x > y <;> simp [h, h2] <;> omega
theorem ci_eq (x y : Int) : Lib.compareInt x y = 0 ↔ x = y := by
  unfold Lib.compareInt; by_cases h : x < y <;> by_cases h2 : x > y <;> simp [h, h2] <;> omega
theorem ord_lt (a b : Rc) : ord2 a b < 0 ↔ Lib.compareBytes a.key b.key < 0 ∨ a.key = b.key ∧ b.seq < a.seq := by
  unfold ord2 ordS orI
  by_cases h : Lib.compareBytes a.key b.key = 0
  · rw [if_pos h, ci_lt]; have := compare_eq h; simp [this, h, compare_refl]
  · rw [if_neg h]
    constructor
    · exact .inl
    · rintro (h2 | ⟨h2, _⟩)
      · exact h2
      · rw [h2, compare_refl] at h; exact absurd rfl h
theorem ord_gt (a b : Rc) : 0 < ord2 a b ↔ 0 < Lib.compareBytes a.key b.key ∨ a.key = b.key ∧ a.seq < b.seq := by
  unfold ord2 ordS orI
  by_cases h : Lib.compareBytes a.key b.key = 0
  · rw [if_pos h, ci_gt]; have := compare_eq h; simp [this, h, compare_refl]
  · rw [if_neg h]
    constructor
    · exact .inl
    · rintro (h2 | ⟨h2, _⟩)
      · exact h2
      · rw [h2, compare_refl] at h; exact absurd rfl h
theorem ord_eq (a b : Rc) : ord2 a b = 0 ↔ a.key = b.key ∧ a.seq = b.seq := by
  unfold ord2 ordS orI
  by_cases h : Lib.compareBytes a.key b.key = 0
  · rw [if_pos h, ci_eq]; have := compare_eq h; simp [this]; exact eq_comm
  · rw [if_neg h]
    constructor
    · intro h2; exact absurd h2 h
    · rintro ⟨h2, _⟩; rw [h2, compare_refl] at h; exact absurd rfl h
theorem toOrd : TO ord2 where
  refl a := (ord_eq a a).2 ⟨rfl, rfl⟩
  flip a b := by
    rw [ord_lt, ord_gt, cb_swap a.key b.key]
    constructor
    · rintro (h | ⟨h, h2⟩)
      · exact .inl (by omega)
      · exact .inr ⟨h.symm, h2⟩
    · rintro (h | ⟨h, h2⟩)
      · exact .inl (by omega)
      · exact .inr ⟨h.symm, h2⟩
  trans a b c := by
    rw [ord_lt, ord_lt, ord_lt]
    rintro (h | ⟨h, h2⟩) (k | ⟨k, k2⟩)
    · exact .inl (cb_trans _ _ _ h k)
    · rw [← k]; exact .inl h
    · rw [h]; exact .inl k
    · exact .inr ⟨h.trans k, by omega⟩
  left a b c h := by
    obtain ⟨h1, h2⟩ := (ord_eq a b).1 h
    rw [ord_lt, ord_lt, h1, h2]
theorem less_iff (a b : Rn) : LessR a b ↔ ord2 a.hd b.hd < 0 ∨ ord2 a.hd b.hd = 0 ∧ a.pl < b.pl := by
  unfold LessR lessI orI
  by_cases h : ord2 a.hd b.hd = 0
  · rw [if_pos h, ci_lt]; simp only [h, true_and, Int.ofNat_lt]; constructor
    · exact .inr
    · rintro (h2 | h2)
      · omega
      · exact h2
  · rw [if_neg h]; constructor
    · exact .inl
    · rintro (h2 | ⟨h2, _⟩)
      · exact h2
      · exact absurd h2 h
theorem loLess : LO LessR where
  asymm a b := by
    rw [less_iff, less_iff]
    have f1 := toOrd.flip a.hd b.hd; have f2 := toOrd.flip b.hd a.hd
    rintro (h | ⟨h, h2⟩) (k | ⟨k, k2⟩) <;> omega
  ntrans a b c := by
    rw [less_iff, less_iff, less_iff]
    intro h k hc
    have f1 := toOrd.flip a.hd b.hd; have f2 := toOrd.flip b.hd a.hd; have f3 := toOrd.flip b.hd c.hd; have f4 := toOrd.flip c.hd b.hd
    have e1 : ord2 b.hd a.hd ≤ 0 := by
      have : ¬ ord2 a.hd b.hd < 0 := fun e => h (.inl e)
      omega
    have e2 : ord2 c.hd b.hd ≤ 0 := by
      have : ¬ ord2 b.hd c.hd < 0 := fun e => k (.inl e)
      omega
    have e3 := toOrd.le_trans e2 e1
    have f5 := toOrd.flip a.hd c.hd; have f6 := toOrd.flip c.hd a.hd
    rcases hc with hc | ⟨hc, hp⟩
    · omega
    · have e4 : ord2 c.hd b.hd = 0 := by
        rcases Int.lt_or_eq_of_le e2 with e | e
        · have := toOrd.lt_le e e1
          omega
        · exact e
      have e5 : ord2 b.hd a.hd = 0 := by
        have := toOrd.symm hc
        have := toOrd.symm e4
        exact toOrd.eq_trans this ‹ord2 c.hd a.hd = 0›
      have e6 := toOrd.symm e4; have e7 := toOrd.symm e5
      have : ¬ a.pl < b.pl := fun e => h (.inr ⟨e7, e⟩)
      have : ¬ b.pl < c.pl := fun e => k (.inr ⟨e6, e⟩)
      omega
theorem not_less (a b : Rn) (h : ¬ LessR a b) : ord2 b.hd a.hd < 0 ∨ ord2 b.hd a.hd = 0 ∧ b.pl ≤ a.pl := by
  rw [less_iff] at h
  have f1 := toOrd.flip a.hd b.hd; have f2 := toOrd.flip b.hd a.hd
  have h1 : ¬ ord2 a.hd b.hd < 0 := fun e => h (.inl e)
  by_cases e : ord2 a.hd b.hd = 0
  · exact .inr ⟨toOrd.symm e, by have : ¬ a.pl < b.pl := fun e' => h (.inr ⟨e, e'⟩); omega⟩
  · left; omega
end Go.Proofs.Ytfcemlcocdhmfaa
