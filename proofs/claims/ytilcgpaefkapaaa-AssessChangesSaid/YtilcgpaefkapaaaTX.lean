/- A tax by brackets, in plain words: the sum of all pieces; the same from the last bracket down, in units and parts. -/
import Derived.Test.YtilcgpaefkapaaaW
namespace Go.Proofs.Ytilcgpaefkapaaa
set_option linter.unusedVariables false
set_option linter.unusedSimpArgs false

/-- A bracket. -/
structure Br where
  frm : Int
  bp : Int
def fr (bs : List Br) (i : Nat) : Int := (bs[i]?.getD ⟨0, 0⟩).frm
def bpA (bs : List Br) (i : Nat) : Int := (bs[i]?.getD ⟨0, 0⟩).bp
theorem fr_at (bs : List Br) (i : Nat) (h : i < bs.length) : fr bs i = bs[i].frm := by simp [fr, h]
theorem bpA_at (bs : List Br) (i : Nat) (h : i < bs.length) : bpA bs i = bs[i].bp := by simp [bpA, h]
def mny (a : Int) : Bool := decide (0 ≤ a ∧ a ≤ 1125899906842624)
theorem mny_yes {a : Int} (h : mny a = true) : 0 ≤ a ∧ a ≤ 1125899906842624 := by simpa [mny] using h
theorem mny_no {a : Int} (h : ¬ mny a = true) : a < 0 ∨ 1125899906842624 < a := by
  have : ¬ (0 ≤ a ∧ a ≤ 1125899906842624) := by simpa [mny] using h
  omega
/-- The bracket i may be. -/
def okB (bs : List Br) (i : Nat) : Prop := (0 ≤ fr bs i ∧ fr bs i ≤ 1125899906842624) ∧ (0 ≤ bpA bs i ∧ bpA bs i ≤ 10000) ∧ (0 < i → fr bs (i - 1) < fr bs i)
/-- What is left ahead of bracket k, from above. -/
def lft (bs : List Br) (P : Int) (k : Nat) : Int := if k < bs.length then min P (fr bs k) else P
def piece (bs : List Br) (P : Int) (i : Nat) : Int := max (lft bs P (i + 1) - fr bs i) 0 * bpA bs i
def up_ (bs : List Br) (P : Int) : Nat → Int
  | 0 => 0
  | k + 1 => up_ bs P k + piece bs P k
section
variable {bs : List Br} {P : Int}
theorem piece_nn {i : Nat} (h : okB bs i) : 0 ≤ piece bs P i := Int.mul_nonneg (by omega) h.2.1.1
theorem up_nn (h : ∀ i, i < bs.length → okB bs i) : ∀ k, k ≤ bs.length → 0 ≤ up_ bs P k
  | 0, _ => Int.le_refl _
  | k + 1, hk => by have := up_nn h k (by omega); have := piece_nn (P := P) (h k (by omega)); simp only [up_]; omega
theorem up_mono (h : ∀ i, i < bs.length → okB bs i) (k : Nat) : ∀ n, k + n ≤ bs.length → up_ bs P k ≤ up_ bs P (k + n)
  | 0, _ => Int.le_refl _
  | n + 1, hn => by have := up_mono h k n (by omega); have := piece_nn (P := P) (h (k + n) (by omega)); rw [← Nat.add_assoc]; simp only [up_]; omega
theorem up_le (h : ∀ i, i < bs.length → okB bs i) (h0 : fr bs 0 = 0) (hP : 0 ≤ P) : ∀ k, k ≤ bs.length → up_ bs P k ≤ 10000 * lft bs P k
  | 0, _ => by
    simp only [up_, lft]; split
    · rw [h0]; omega
    · omega
  | k + 1, hk => by
    have ih := up_le h h0 hP k (by omega)
    obtain ⟨⟨a1, a2⟩, ⟨b1, b2⟩, c⟩ := h k (by omega)
    have hk' : k < bs.length := by omega
    have e : lft bs P k = min P (fr bs k) := by unfold lft; rw [if_pos hk']
    rw [e] at ih
    simp only [up_, piece]
    by_cases hl : lft bs P (k + 1) ≤ fr bs k
    · rw [show max (lft bs P (k + 1) - fr bs k) 0 = 0 by omega, Int.zero_mul]
      have : min P (fr bs k) ≤ lft bs P (k + 1) := by
        unfold lft; split
        · rename_i h2
          have := (h (k + 1) h2).2.2 (by omega)
          rw [Nat.add_sub_cancel] at this
          omega
        · omega
      omega
    · have h2 : lft bs P (k + 1) ≤ P := by unfold lft; split <;> omega
      rw [show max (lft bs P (k + 1) - fr bs k) 0 = lft bs P (k + 1) - fr bs k by omega]
      have := Int.mul_le_mul_of_nonneg_left b2 (show 0 ≤ lft bs P (k + 1) - fr bs k by omega)
      omega
/-- The program's state with k brackets still to come. -/
structure Dn (bs : List Br) (P : Int) (k : Nat) (left units parts : Int) : Prop where
  lf : left = lft bs P k
  sm : 10000 * units + parts = up_ bs P bs.length - up_ bs P k
  un : 0 ≤ units
  pn : 0 ≤ parts
  pm : parts ≤ ((bs.length : Int) - k) * 99990000
theorem Dn.start : Dn bs P bs.length P 0 0 := ⟨by unfold lft; rw [if_neg (Nat.lt_irrefl _)], by omega, by omega, by omega, by omega⟩
theorem Dn.skip {k : Nat} {left units parts : Int} (h : ∀ i, i < bs.length → okB bs i) (hk : k < bs.length) (d : Dn bs P (k + 1) left units parts) (hl : left ≤ fr bs k) : Dn bs P k left units parts := by
  have hp : piece bs P k = 0 := by unfold piece; rw [← d.lf, show max (left - fr bs k) 0 = 0 by omega, Int.zero_mul]
  refine ⟨?_, ?_, d.un, d.pn, ?_⟩
  · have e := d.lf
    unfold lft at *
    rw [if_pos hk]
    split at e
    · rename_i h2
      have := (h (k + 1) h2).2.2 (by omega)
      rw [Nat.add_sub_cancel] at this
      omega
    · omega
  · have := d.sm; simp only [up_] at this; omega
  · have := d.pm; omega
theorem Dn.step {k : Nat} {left units parts : Int} (h : ∀ i, i < bs.length → okB bs i) (hk : k < bs.length) (d : Dn bs P (k + 1) left units parts) (hl : ¬ left ≤ fr bs k) :
    Dn bs P k (fr bs k) (units + (left - fr bs k) / 10000 * bpA bs k) (parts + (left - fr bs k) % 10000 * bpA bs k) := by
  obtain ⟨⟨a1, a2⟩, ⟨b1, b2⟩, c⟩ := h k hk
  have hp : piece bs P k = (left - fr bs k) * bpA bs k := by unfold piece; rw [← d.lf, show max (left - fr bs k) 0 = left - fr bs k by omega]
  have m1 := Int.emod_nonneg (left - fr bs k) (show (10000 : Int) ≠ 0 by omega)
  have m2 := Int.emod_lt_of_pos (left - fr bs k) (show (0 : Int) < 10000 by omega)
  have m3 := Int.mul_nonneg m1 b1
  have m4 : (left - fr bs k) % 10000 * bpA bs k ≤ 9999 * 10000 := Int.le_trans (Int.mul_le_mul_of_nonneg_right (show (left - fr bs k) % 10000 ≤ 9999 by omega) b1) (Int.mul_le_mul_of_nonneg_left b2 (by omega))
  have m5 : 0 ≤ (left - fr bs k) / 10000 * bpA bs k := Int.mul_nonneg (Int.ediv_nonneg (by omega) (by omega)) b1
  refine ⟨?_, ?_, by have := d.un; omega, by have := d.pn; omega, by have := d.pm; omega⟩
  · have e : left ≤ P := by rw [d.lf]; unfold lft; split <;> omega
    unfold lft; rw [if_pos hk]; omega
  · have := d.sm
    simp only [up_] at this
    rw [hp] at this
    have e := Int.mul_ediv_add_emod (left - fr bs k) 10000
    have e2 : 10000 * ((left - fr bs k) / 10000 * bpA bs k) + (left - fr bs k) % 10000 * bpA bs k = (left - fr bs k) * bpA bs k := by
      conv => rhs; rw [← e]
      rw [Int.add_mul, Int.mul_assoc]
    omega
/-- Bounds on the way. -/
theorem Dn.bound {k : Nat} {left units parts : Int} (h : ∀ i, i < bs.length → okB bs i) (h0 : fr bs 0 = 0) (hP : 0 ≤ P ∧ P ≤ 1125899906842624) (hn : bs.length ≤ 10) (hk : k ≤ bs.length) (d : Dn bs P k left units parts) :
    (left ≤ P ∧ 0 ≤ left) ∧ (0 ≤ units ∧ units ≤ 1125899906842624) ∧ (0 ≤ parts ∧ parts ≤ 999900000) := by
  have u1 := up_le h h0 hP.1 bs.length (Nat.le_refl _)
  have e : lft bs P bs.length = P := by unfold lft; rw [if_neg (Nat.lt_irrefl _)]
  rw [e] at u1
  have u2 := up_nn (P := P) h k hk
  have := d.sm; have a := d.un; have b := d.pn; have := d.pm
  refine ⟨?_, ⟨a, by omega⟩, ⟨b, by omega⟩⟩
  have := d.lf
  unfold lft at this
  split at this
  · have := (h k (by assumption)).1; omega
  · omega
theorem Dn.done {left units parts : Int} (d : Dn bs P 0 left units parts) : units + parts / 10000 = up_ bs P bs.length / 10000 := by
  have := d.sm; simp only [up_] at this; omega
end
/-- A schedule. -/
structure Sch where
  bs : List Br
  ded : Int
  cred : Int
  lbp : Int
  most : Int
  least : Int
/-- The schedule may be. -/
def OkS (s : Sch) : Prop := (1 ≤ s.bs.length ∧ s.bs.length ≤ 10) ∧ (0 ≤ s.lbp ∧ s.lbp ≤ 10000) ∧ (0 ≤ s.most ∧ s.most ≤ 60) ∧ fr s.bs 0 = 0 ∧ (∀ i, i < s.bs.length → okB s.bs i) ∧ mny s.ded = true ∧ mny s.cred = true ∧ mny s.least = true
noncomputable def okS (s : Sch) : Bool := @decide (OkS s) (Classical.propDecidable _)
theorem okS_yes {s : Sch} (h : okS s = true) : OkS s := @of_decide_eq_true _ (Classical.propDecidable _) h
theorem okS_no {s : Sch} (h : ¬ OkS s) : okS s = false := @decide_eq_false _ (Classical.propDecidable _) h
theorem okS_is {s : Sch} (h : OkS s) : okS s = true := @decide_eq_true _ (Classical.propDecidable _) h
def partS (s : Sch) (x : Int) : Int := max (x - s.ded) 0
def taxV (s : Sch) (x : Int) : Int := max (up_ s.bs (partS s x) s.bs.length / 10000 - s.cred) 0
noncomputable def taxS (s : Sch) (x : Int) : Int × Int := if okS s && mny x then (taxV s x, 0) else (0, 1)
theorem taxV_bd {s : Sch} {x : Int} (h : OkS s) (hx : mny x = true) : 0 ≤ taxV s x ∧ taxV s x ≤ 1125899906842624 := by
  obtain ⟨_, _, _, h0, hb, hd, hc, _⟩ := h
  have d := mny_yes hd; have c := mny_yes hc; have x' := mny_yes hx
  have u1 := up_le (P := partS s x) hb h0 (by unfold partS; omega) s.bs.length (Nat.le_refl _)
  have e : lft s.bs (partS s x) s.bs.length = partS s x := by unfold lft; rw [if_neg (Nat.lt_irrefl _)]
  rw [e] at u1
  have : partS s x ≤ 1125899906842624 := by unfold partS; omega
  unfold taxV; omega
end Go.Proofs.Ytilcgpaefkapaaa
