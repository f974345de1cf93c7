/- The calendar, in plain words (Assess, Account): years, months, days; months that are added; how many months a day is behind another. -/
import Derived.Test.YtilcgpaefkapaaaW
namespace Go.Proofs.Ytilcgpaefkapaaa
set_option linter.unusedVariables false
set_option linter.unusedSimpArgs false

def leapY (y : Nat) : Bool := decide (y % 4 = 0 ∧ (y % 100 ≠ 0 ∨ y % 400 = 0))
def yl (y : Nat) : Nat := if leapY y then 366 else 365
def ml (y m : Nat) : Nat := if m = 2 then (if leapY y then 29 else 28) else if m = 4 ∨ m = 6 ∨ m = 9 ∨ m = 11 then 30 else 31
/-- The days ahead of a year. -/
def dby (y : Nat) : Nat := (y - 1) * 365 + (y - 1) / 4 - (y - 1) / 100 + (y - 1) / 400
/-- The days of a year ahead of a month. -/
def cumM (y : Nat) : Nat → Nat
  | 0 => 0
  | m + 1 => cumM y m + (if m = 0 then 0 else ml y m)
theorem ml_bd (y m : Nat) : 28 ≤ ml y m ∧ ml y m ≤ 31 := by unfold ml; split <;> (try split) <;> (try split) <;> omega
theorem leapY_iff (y : Nat) : leapY y = true ↔ (y % 4 = 0 ∧ (y % 100 ≠ 0 ∨ y % 400 = 0)) := by simp [leapY]
theorem step4 (n : Nat) : (n + 1) / 4 = n / 4 + (if (n + 1) % 4 = 0 then 1 else 0) := by split <;> omega
theorem step100 (n : Nat) : (n + 1) / 100 = n / 100 + (if (n + 1) % 100 = 0 then 1 else 0) := by split <;> omega
theorem step400 (n : Nat) : (n + 1) / 400 = n / 400 + (if (n + 1) % 400 = 0 then 1 else 0) := by split <;> omega
theorem dby_succ {y : Nat} (h : 1 ≤ y) : dby (y + 1) = dby y + yl y := by
  obtain ⟨n, rfl⟩ : ∃ n, y = n + 1 := ⟨y - 1, by omega⟩
  have e1 := step4 n; have e2 := step100 n; have e3 := step400 n
  have hle : n / 100 ≤ n / 4 := by omega
  have hle2 : (n + 1) / 100 ≤ (n + 1) / 4 := by omega
  have m1 : (n + 1) % 400 = 0 → (n + 1) % 100 = 0 := by omega
  have m2 : (n + 1) % 100 = 0 → (n + 1) % 4 = 0 := by omega
  unfold dby yl
  rw [Nat.add_sub_cancel, Nat.add_sub_cancel]
  generalize (n + 1) / 4 = A at *
  generalize (n + 1) / 100 = B at *
  generalize (n + 1) / 400 = C at *
  generalize n / 4 = a at *
  generalize n / 100 = b at *
  generalize n / 400 = c at *
  by_cases hl : leapY (n + 1) = true
  · rw [if_pos hl]; rw [leapY_iff] at hl
    obtain ⟨h1, h2⟩ := hl
    rw [if_pos h1] at e1
    rcases h2 with h2 | h2
    · rw [if_neg h2] at e2
      rw [if_neg (fun h => h2 (m1 h))] at e3; omega
    · rw [if_pos (m1 h2)] at e2; rw [if_pos h2] at e3; omega
  · rw [if_neg hl]; rw [leapY_iff] at hl
    by_cases h1 : (n + 1) % 4 = 0
    · have h2 : (n + 1) % 100 = 0 := by
        by_cases h2 : (n + 1) % 100 = 0
        · exact h2
        · exact absurd ⟨h1, .inl h2⟩ hl
      have h3 : ¬ (n + 1) % 400 = 0 := fun h3 => hl ⟨h1, .inr h3⟩
      rw [if_pos h1] at e1; rw [if_pos h2] at e2; rw [if_neg h3] at e3; omega
    · rw [if_neg h1] at e1; rw [if_neg (fun h => h1 (m2 h))] at e2; rw [if_neg (fun h => h1 (m2 (m1 h)))] at e3; omega
theorem cumM_one (y : Nat) : cumM y 1 = 0 := by simp [cumM]
theorem cumM_succ (y : Nat) {m : Nat} (h : 1 ≤ m) : cumM y (m + 1) = cumM y m + ml y m := by simp only [cumM]; rw [if_neg (by omega)]
theorem cumM_year (y : Nat) : cumM y 13 = yl y := by
  simp only [cumM, ml, yl]
  by_cases hl : leapY y = true
  · simp [hl]
  · simp [hl]
/-- Day n is the d-th of the month m of the year y. -/
def IsD (n y m d : Nat) : Prop := 1 ≤ y ∧ (1 ≤ m ∧ m ≤ 12) ∧ (1 ≤ d ∧ d ≤ ml y m) ∧ n = dby y + cumM y m + (d - 1)
/-- Months, counted through. -/
def ms (i : Nat) : Nat := dby (i / 12) + cumM (i / 12) (i % 12 + 1)
def mlen (i : Nat) : Nat := ml (i / 12) (i % 12 + 1)
theorem ms_succ {i : Nat} (h : 12 ≤ i) : ms (i + 1) = ms i + mlen i := by
  unfold ms mlen
  by_cases h11 : i % 12 = 11
  · have e1 : (i + 1) / 12 = i / 12 + 1 := by omega
    have e2 : (i + 1) % 12 = 0 := by omega
    rw [e1, e2, h11, dby_succ (by omega), Nat.zero_add, cumM_one]
    have := cumM_year (i / 12)
    rw [show (13 : Nat) = 12 + 1 from rfl, cumM_succ _ (by omega)] at this
    rw [← this, Nat.add_zero, ← Nat.add_assoc]
  · have e1 : (i + 1) / 12 = i / 12 := by omega
    have e2 : (i + 1) % 12 = i % 12 + 1 := by omega
    rw [e1, e2, cumM_succ _ (by omega)]; omega
theorem ms_lt {i : Nat} (h : 12 ≤ i) : ∀ k, ms i + mlen i ≤ ms (i + 1 + k)
  | 0 => by rw [Nat.add_zero, ms_succ h]; exact Nat.le_refl _
  | k + 1 => by
    have := ms_lt h k
    rw [← Nat.add_assoc, ms_succ (i := i + 1 + k) (by omega)]; omega
theorem ms_before {i j : Nat} (h : 12 ≤ i) (hij : i < j) : ms i + mlen i ≤ ms j := by
  have := ms_lt h (j - (i + 1))
  rwa [show i + 1 + (j - (i + 1)) = j by omega] at this
/-- A day lies in one month. -/
theorem ms_one {i j n : Nat} (hi : 12 ≤ i) (hj : 12 ≤ j) (h1 : ms i ≤ n ∧ n < ms i + mlen i) (h2 : ms j ≤ n ∧ n < ms j + mlen j) : i = j := by
  rcases Nat.lt_trichotomy i j with h | h | h
  · have := ms_before hi h; omega
  · exact h
  · have := ms_before hj h; omega
theorem IsD.ms {n y m d : Nat} (h : IsD n y m d) : n = ms (12 * y + (m - 1)) + (d - 1) ∧ d ≤ mlen (12 * y + (m - 1)) ∧ 1 ≤ d ∧ 12 ≤ 12 * y + (m - 1) := by
  obtain ⟨h1, h2, h3, rfl⟩ := h
  have e1 : (12 * y + (m - 1)) / 12 = y := by omega
  have e2 : (12 * y + (m - 1)) % 12 + 1 = m := by omega
  unfold Go.Proofs.Ytilcgpaefkapaaa.ms mlen
  rw [e1, e2]; exact ⟨rfl, h3.2, h3.1, by omega⟩
theorem IsD.one {n y m d y' m' d' : Nat} (h : IsD n y m d) (h' : IsD n y' m' d') : y = y' ∧ m = m' ∧ d = d' := by
  obtain ⟨a1, a2, a3, a4⟩ := h.ms
  obtain ⟨b1, b2, b3, b4⟩ := h'.ms
  have e := ms_one a4 b4 (n := n) (by omega) (by omega)
  obtain ⟨c1, c2, c3, _⟩ := h
  obtain ⟨c1', c2', c3', _⟩ := h'
  rw [e] at a1
  omega
/-- A year in the program's steps. -/
theorem year_steps {n : Nat} (h : n ≤ 3652058) {k1 k2 k3 k4 n1 n2 n3 n4 : Nat} (e1 : k1 = min (n / 146097) 100) (f1 : n1 = n - k1 * 146097) (e2 : k2 = min (n1 / 36524) 3) (f2 : n2 = n1 - k2 * 36524)
    (e3 : k3 = min (n2 / 1461) 24) (f3 : n3 = n2 - k3 * 1461) (e4 : k4 = min (n3 / 365) 3) (f4 : n4 = n3 - k4 * 365) :
    n = dby (1 + k1 * 400 + k2 * 100 + k3 * 4 + k4) + n4 ∧ n4 < yl (1 + k1 * 400 + k2 * 100 + k3 * 4 + k4) := by
  have hk1 : k1 ≤ 24 := by omega
  have hk2 : k2 ≤ 3 := by omega
  have hk3 : k3 ≤ 24 := by omega
  have hk4 : k4 ≤ 3 := by omega
  have d : dby (1 + k1 * 400 + k2 * 100 + k3 * 4 + k4) = k1 * 146097 + k2 * 36524 + k3 * 1461 + k4 * 365 := by
    unfold dby
    have g1 : (1 + k1 * 400 + k2 * 100 + k3 * 4 + k4 - 1) / 4 = k1 * 100 + k2 * 25 + k3 := by omega
    have g2 : (1 + k1 * 400 + k2 * 100 + k3 * 4 + k4 - 1) / 100 = k1 * 4 + k2 := by omega
    have g3 : (1 + k1 * 400 + k2 * 100 + k3 * 4 + k4 - 1) / 400 = k1 := by omega
    rw [g1, g2, g3]; omega
  refine ⟨by rw [d]; omega, ?_⟩
  unfold yl
  by_cases hl : leapY (1 + k1 * 400 + k2 * 100 + k3 * 4 + k4) = true
  · rw [if_pos hl]; omega
  · rw [if_neg hl]; rw [leapY_iff] at hl; omega
/-- A month in the program's steps: the least one whose days are not yet behind. -/
theorem month_ex {y r : Nat} (h : r < yl y) : ∃ m, (1 ≤ m ∧ m ≤ 12) ∧ cumM y m ≤ r ∧ r < cumM y m + ml y m := by
  have h13 := cumM_year y
  have hz := cumM_one y
  have go : ∀ k, k ≤ 12 → (∃ m, (1 ≤ m ∧ m ≤ 12) ∧ cumM y m ≤ r ∧ r < cumM y m + ml y m) ∨ cumM y (k + 1) ≤ r := by
    intro k
    induction k with
    | zero => intro _; exact .inr (by rw [Nat.zero_add, hz]; omega)
    | succ k ih =>
      intro hk
      rcases ih (by omega) with h1 | h1
      · exact .inl h1
      · by_cases h2 : r < cumM y (k + 1) + ml y (k + 1)
        · exact .inl ⟨k + 1, ⟨by omega, by omega⟩, h1, h2⟩
        · exact .inr (by rw [cumM_succ y (m := k + 1) (by omega)]; omega)
  rcases go 12 (by omega) with h1 | h1
  · exact h1
  · have h2 : cumM y 13 ≤ r := h1
    omega
/-- Months added to the d-th day of month i. -/
def addM (i d n : Nat) : Option Nat := if (i + n) / 12 ≤ 9999 then some (ms (i + n) + (min d (mlen (i + n)) - 1)) else none
/-- How many months the e-th day of month j is behind the d-th of month i. -/
def lateM (i d j e : Nat) : Nat := if min d (mlen j) < e then j - i + 1 else j - i
theorem late_before {i d j e n : Nat} (hi : 12 ≤ i) (hd : 1 ≤ d) (hj : j / 12 ≤ 9999) (he : 1 ≤ e ∧ e ≤ mlen j) (hij : i ≤ j) (hn : n < lateM i d j e) : ∃ x, addM i d n = some x ∧ x < ms j + (e - 1) := by
  have hle : n ≤ j - i := by unfold lateM at hn; split at hn <;> omega
  have hy : (i + n) / 12 ≤ 9999 := Nat.le_trans (Nat.div_le_div_right (by omega)) hj
  refine ⟨_, if_pos hy, ?_⟩
  by_cases h : n = j - i
  · have e1 : i + n = j := by omega
    rw [e1]
    unfold lateM at hn
    split at hn <;> omega
  · have := ms_before (i := i + n) (j := j) (by omega) (by omega)
    have hb := ml_bd ((i + n) / 12) ((i + n) % 12 + 1)
    have : 28 ≤ mlen (i + n) := hb.1
    omega
theorem late_at {i d j e x : Nat} (hi : 12 ≤ i) (hd : 1 ≤ d) (hj : j / 12 ≤ 9999) (he : 1 ≤ e ∧ e ≤ mlen j) (hij : i ≤ j) (hx : addM i d (lateM i d j e) = some x) : ms j + (e - 1) ≤ x := by
  unfold addM at hx
  split at hx
  · cases hx
    unfold lateM
    split
    · have e1 : i + (j - i + 1) = j + 1 := by omega
      rw [e1, ms_succ (by omega)]; omega
    · have e1 : i + (j - i) = j := by omega
      rw [e1]; omega
  · cases hx
theorem cumM_mono (y : Nat) {a : Nat} : ∀ k, cumM y a ≤ cumM y (a + k)
  | 0 => Nat.le_refl _
  | k + 1 => by have := cumM_mono y (a := a) k; rw [← Nat.add_assoc]; simp only [cumM]; omega
theorem dby_big {y : Nat} (h : 10000 ≤ y) : 3652059 ≤ dby y := by unfold dby; omega
theorem dby_le {a b : Nat} (h : a ≤ b) (ha : 1 ≤ a) : dby a ≤ dby b := by
  obtain ⟨k, rfl⟩ : ∃ k, b = a + k := ⟨b - a, by omega⟩
  induction k with
  | zero => exact Nat.le_refl _
  | succ k ih => rw [← Nat.add_assoc, dby_succ (by omega)]; have := ih (by omega); omega
/-- Each day is one of a month. -/
theorem day_ex {n : Nat} (h : n ≤ 3652058) : ∃ y m d, IsD n y m d ∧ y ≤ 9999 := by
  obtain ⟨k1, e1⟩ : ∃ k, k = min (n / 146097) 100 := ⟨_, rfl⟩
  obtain ⟨n1, f1⟩ : ∃ k, k = n - k1 * 146097 := ⟨_, rfl⟩
  obtain ⟨k2, e2⟩ : ∃ k, k = min (n1 / 36524) 3 := ⟨_, rfl⟩
  obtain ⟨n2, f2⟩ : ∃ k, k = n1 - k2 * 36524 := ⟨_, rfl⟩
  obtain ⟨k3, e3⟩ : ∃ k, k = min (n2 / 1461) 24 := ⟨_, rfl⟩
  obtain ⟨n3, f3⟩ : ∃ k, k = n2 - k3 * 1461 := ⟨_, rfl⟩
  obtain ⟨k4, e4⟩ : ∃ k, k = min (n3 / 365) 3 := ⟨_, rfl⟩
  obtain ⟨n4, f4⟩ : ∃ k, k = n3 - k4 * 365 := ⟨_, rfl⟩
  obtain ⟨g1, g2⟩ := year_steps h e1 f1 e2 f2 e3 f3 e4 f4
  obtain ⟨m, hm, hm1, hm2⟩ := month_ex g2
  refine ⟨1 + k1 * 400 + k2 * 100 + k3 * 4 + k4, m, n4 - cumM (1 + k1 * 400 + k2 * 100 + k3 * 4 + k4) m + 1, ⟨by omega, hm, ⟨by omega, by omega⟩, by omega⟩, ?_⟩
  omega
/-- A day's month, counted through, and its day of the month. -/
noncomputable def mi (n : Nat) : Nat × Nat := open Classical in if h : ∃ p : Nat × Nat, ∃ y m, IsD n y m p.2 ∧ p.1 = 12 * y + (m - 1) then h.choose else (0, 0)
theorem mi_eq {n y m d : Nat} (h : IsD n y m d) : mi n = (12 * y + (m - 1), d) := by
  have hex : ∃ p : Nat × Nat, ∃ y m, IsD n y m p.2 ∧ p.1 = 12 * y + (m - 1) := ⟨(12 * y + (m - 1), d), y, m, h, rfl⟩
  unfold mi
  rw [dif_pos hex]
  obtain ⟨y', m', h', e⟩ := hex.choose_spec
  obtain ⟨rfl, rfl, e2⟩ := h.one h'
  exact Prod.ext e e2.symm
/-- How many months a day is behind another one. -/
noncomputable def lateD (due filed : Nat) : Nat := if filed ≤ due then 0 else lateM (mi due).1 (mi due).2 (mi filed).1 (mi filed).2
theorem IsD.order {n y m d n' y' m' d' : Nat} (h : IsD n y m d) (h' : IsD n' y' m' d') (hn : n ≤ n') : 12 * y + (m - 1) < 12 * y' + (m' - 1) ∨ 12 * y + (m - 1) = 12 * y' + (m' - 1) ∧ d ≤ d' := by
  obtain ⟨a1, a2, a3, a4⟩ := h.ms
  obtain ⟨b1, b2, b3, b4⟩ := h'.ms
  rcases Nat.lt_trichotomy (12 * y + (m - 1)) (12 * y' + (m' - 1)) with h1 | h1 | h1
  · exact .inl h1
  · refine .inr ⟨h1, ?_⟩; rw [h1] at a1; omega
  · have := ms_before b4 h1; omega
theorem lateM_mono {i d j e j' e' : Nat} (h : j < j' ∨ j = j' ∧ e ≤ e') (hij : i ≤ j) : lateM i d j e ≤ lateM i d j' e' := by
  unfold lateM
  rcases h with h | ⟨rfl, h⟩
  · split <;> split <;> omega
  · split <;> split <;> omega
theorem lateD_mono {due a b : Nat} (hd : due ≤ 3652058) (ha : a ≤ 3652058) (hb : b ≤ 3652058) (h : a ≤ b) : lateD due a ≤ lateD due b := by
  unfold lateD
  by_cases h1 : a ≤ due
  · rw [if_pos h1]; omega
  · rw [if_neg h1, if_neg (by omega)]
    obtain ⟨y, m, d, g, _⟩ := day_ex hd
    obtain ⟨y1, m1, d1, g1, _⟩ := day_ex ha
    obtain ⟨y2, m2, d2, g2, _⟩ := day_ex hb
    rw [mi_eq g, mi_eq g1, mi_eq g2]
    refine lateM_mono (g1.order g2 h) ?_
    rcases g.order g1 (by omega) with h2 | h2 <;> simp only <;> omega
/-- The day so many months later. -/
noncomputable def addD (due n : Nat) : Option Nat := addM (mi due).1 (mi due).2 n
theorem addM_bd {i d n x : Nat} (hi : 12 ≤ i) (h : addM i d n = some x) : x ≤ 3652058 := by
  unfold addM at h
  split at h
  · cases h
    have e := ms_succ (i := i + n) (by omega)
    have hb := ml_bd ((i + n) / 12) ((i + n) % 12 + 1)
    have h1 : mlen (i + n) ≤ 31 ∧ 28 ≤ mlen (i + n) := ⟨hb.2, hb.1⟩
    have h2 : ms (i + n + 1) ≤ 3652059 := by
      unfold ms
      have h3 : (i + n + 1) / 12 ≤ 9999 ∨ (i + n + 1) / 12 = 10000 ∧ (i + n + 1) % 12 = 0 := by omega
      rcases h3 with h3 | ⟨h3, h4⟩
      · have c1 := cumM_mono ((i + n + 1) / 12) (a := (i + n + 1) % 12 + 1) (12 - (i + n + 1) % 12)
        rw [show (i + n + 1) % 12 + 1 + (12 - (i + n + 1) % 12) = 13 by omega, cumM_year] at c1
        have c2 := dby_succ (y := (i + n + 1) / 12) (by omega)
        have c3 := dby_le (a := (i + n + 1) / 12 + 1) (b := 10000) (by omega) (by omega)
        have c4 : dby 10000 = 3652059 := by decide
        omega
      · rw [h3, h4, Nat.zero_add, cumM_one]; decide
    omega
  · cases h
theorem late_lt {due filed n : Nat} (hd : due ≤ 3652058) (hf : filed ≤ 3652058) (h : n < lateD due filed) : ∃ x, addD due n = some x ∧ x < filed := by
  obtain ⟨y, m, d, g, hy⟩ := day_ex hd
  obtain ⟨y1, m1, d1, g1, hy1⟩ := day_ex hf
  unfold lateD at h
  split at h
  · omega
  · rename_i h1
    unfold addD
    rw [mi_eq g, mi_eq g1] at h
    rw [mi_eq g]
    obtain ⟨a1, a2, a3, a4⟩ := g.ms
    obtain ⟨b1, b2, b3, b4⟩ := g1.ms
    have h2 := g.order g1 (by omega)
    obtain ⟨x, hx, hlt⟩ := late_before (i := 12 * y + (m - 1)) (d := d) (j := 12 * y1 + (m1 - 1)) (e := d1) (n := n) a4 a3 (by have := g1.2.1; omega) ⟨b3, b2⟩ (by omega) h
    exact ⟨x, hx, by omega⟩
theorem late_eq {due filed : Nat} (hd : due ≤ 3652058) (hf : filed ≤ 3652058) : ∀ x, addD due (lateD due filed) = some x → filed ≤ x := by
  intro x hx
  obtain ⟨y, m, d, g, hy⟩ := day_ex hd
  obtain ⟨y1, m1, d1, g1, hy1⟩ := day_ex hf
  obtain ⟨a1, a2, a3, a4⟩ := g.ms
  obtain ⟨b1, b2, b3, b4⟩ := g1.ms
  unfold addD lateD at hx
  split at hx
  · rw [mi_eq g] at hx
    simp only [addM, Nat.add_zero] at hx
    have h2 := g.2.1
    rw [if_pos (by omega)] at hx
    cases hx
    rw [Nat.min_eq_left a2]; omega
  · rw [mi_eq g, mi_eq g1] at hx
    have h2 := g.order g1 (by omega)
    have := late_at (i := 12 * y + (m - 1)) (d := d) (j := 12 * y1 + (m1 - 1)) (e := d1) a4 a3 (by have := g1.2.1; omega) ⟨b3, b2⟩ (by omega) hx
    omega
end Go.Proofs.Ytilcgpaefkapaaa
