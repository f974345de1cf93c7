/- Paying items in order, in plain words. -/
import Derived.Test.YtcoeooakimbkbaaSP
namespace Go.Proofs.Ytcoeooakimbkbaa
set_option linter.unusedVariables false
set_option linter.unusedSimpArgs false

structure Dq where
  due : Int
  kind : Int
  per : Int
  opn : Int
def okI (x : Dq) : Bool := decide (0 ≤ x.due ∧ x.due ≤ 3652058 ∧ 0 ≤ x.kind ∧ x.kind ≤ 2 ∧ 1 ≤ x.per ∧ x.per ≤ 99999 ∧ 0 ≤ x.opn ∧ x.opn ≤ 4611686018427387904)
def keyI (x : Dq) : Int := (x.due * 4 + x.kind) * 100000 + x.per
theorem okI_yes {x : Dq} (h : okI x = true) : 0 ≤ x.due ∧ x.due ≤ 3652058 ∧ 0 ≤ x.kind ∧ x.kind ≤ 2 ∧ 1 ≤ x.per ∧ x.per ≤ 99999 ∧ 0 ≤ x.opn ∧ x.opn ≤ 4611686018427387904 := by simpa [okI] using h
theorem keyI_bd {x : Dq} (h : okI x = true) : 0 ≤ keyI x ∧ keyI x ≤ 2000000000000 := by have := okI_yes h; unfold keyI; omega
/-- Lexicographic, as the text compares. -/
def aheadI (a b : Dq) : Bool := if a.due ≠ b.due then decide (a.due < b.due) else if a.kind ≠ b.kind then decide (a.kind < b.kind) else decide (a.per < b.per)
theorem aheadI_key {a b : Dq} (ha : okI a = true) (hb : okI b = true) : aheadI a b = decide (keyI a < keyI b) := by
  have h1 := okI_yes ha
  have h2 := okI_yes hb
  unfold aheadI keyI
  by_cases e1 : a.due = b.due
  · by_cases e2 : a.kind = b.kind
    · simp only [e1, e2, ne_eq, not_true_eq_false, if_false]; congr 1; exact propext ⟨by omega, by omega⟩
    · simp only [e1, e2, ne_eq, not_true_eq_false, not_false_eq_true, if_true, if_false]; congr 1; exact propext ⟨by omega, by omega⟩
  · simp only [e1, ne_eq, not_false_eq_true, if_true]; congr 1; exact propext ⟨by omega, by omega⟩
/-- What may be wrong with items: 1, 5, or nothing. -/
def placesE (its : List Dq) : Int := if its.length ≤ 200 ∧ its.all okI = true then (if (its.map keyI).Nodup then 0 else 5) else 1

def opens (its : List Dq) : Int := (its.map Dq.opn).sum
/-- What is open ahead of a key. -/
def ahd (its : List Dq) (k : Int) : Int := opens (its.filter fun x => decide (keyI x < k))
def clampP (o n : Int) : Int := max 0 (min o n)
def paidI (its : List Dq) (amount : Int) (x : Dq) : Int := clampP x.opn (amount - ahd its (keyI x))
def payL (its : List Dq) (amount : Int) : List Int := its.map (paidI its amount)
def leftI (its : List Dq) (amount : Int) : Int := max 0 (amount - opens its)

theorem sum_perm {a b : List Int} (h : a.Perm b) : a.sum = b.sum := by
  induction h with
  | nil => rfl
  | cons x _ ih => simp [ih]
  | swap x y l => simp only [List.sum_cons]; omega
  | trans _ _ h1 h2 => exact h1.trans h2
theorem opens_perm {a b : List Dq} (h : a.Perm b) : opens a = opens b := sum_perm (h.map _)
theorem ahd_perm {a b : List Dq} (h : a.Perm b) (k : Int) : ahd a k = ahd b k := opens_perm (h.filter _)
theorem opens_app (a b : List Dq) : opens (a ++ b) = opens a + opens b := by simp [opens]
theorem opens_nonneg {its : List Dq} (h : its.all okI = true) : 0 ≤ opens its := sum_nonneg fun x hx => by
  obtain ⟨q, hq, rfl⟩ := List.mem_map.1 hx
  have := okI_yes (List.all_eq_true.1 h q hq); omega
theorem opens_bound : ∀ {its : List Dq}, its.all okI = true → opens its ≤ 4611686018427387904 * its.length
  | [], _ => by simp [opens]
  | x :: l, h => by
    simp only [List.all_cons, Bool.and_eq_true] at h
    have h1 := opens_bound h.2
    have h2 := okI_yes h.1
    have e : opens (x :: l) = x.opn + opens l := by simp [opens]
    rw [e, List.length_cons]; omega
theorem ahd_nonneg {its : List Dq} (h : its.all okI = true) (k : Int) : 0 ≤ ahd its k := opens_nonneg (List.all_eq_true.2 fun x hx => List.all_eq_true.1 h x (List.mem_filter.1 hx).1)

/-- Items in the order in which they are paid. -/
def inOrd (its : List Dq) (d : List Int) : List Dq := d.map fun i => its.getD i.toNat ⟨0, 0, 0, 0⟩
theorem inOrd_perm {its : List Dq} {d : List Int} (h : Pl its.length d) : (inOrd its d).Perm its := by
  have h1 : (inOrd its d).Perm (((List.range its.length).map fun (i : Nat) => (i : Int)).map fun i => its.getD i.toNat ⟨0, 0, 0, 0⟩) := List.Perm.map _ h
  have h2 : (((List.range its.length).map fun (i : Nat) => (i : Int)).map fun i => its.getD i.toNat ⟨0, 0, 0, 0⟩) = its := by
    apply List.ext_getElem (by simp)
    intro i h1 h2; simp at h1; simp [h1]
  rw [h2] at h1; exact h1
theorem inOrd_len (its : List Dq) (d : List Int) : (inOrd its d).length = d.length := by simp [inOrd]
theorem inOrd_at {its : List Dq} {d : List Int} {k j : Nat} (hk : k < d.length) (hj : d[k] = (j : Int)) (hjn : j < its.length) : (inOrd its d)[k]'(by rw [inOrd_len]; exact hk) = its[j] := by
  simp [inOrd, hj, hjn]
/-- d names the items in rising order of their keys. -/
def Rise (its : List Dq) (d : List Int) : Prop := (inOrd its d).Pairwise fun a b => keyI a < keyI b
theorem filter_rise {s : List Dq} (h : s.Pairwise fun a b => keyI a < keyI b) {k : Nat} (hk : k < s.length) : s.filter (fun x => decide (keyI x < keyI s[k])) = s.take k := by
  induction s generalizing k with
  | nil => simp at hk
  | cons x s ih =>
    rw [List.pairwise_cons] at h
    cases k with
    | zero =>
      simp only [List.getElem_cons_zero, List.take_zero]
      rw [List.filter_eq_nil_iff]
      intro y hy
      rcases List.mem_cons.1 hy with rfl | hy
      · simp
      · have := h.1 y hy; simp; omega
    | succ k =>
      simp only [List.getElem_cons_succ, List.take_succ_cons]
      have hx := h.1 _ (List.getElem_mem (l := s) (n := k) (by simpa using hk))
      rw [List.filter_cons_of_pos (by simpa using hx), ih h.2 (by simpa using hk)]
theorem ahd_at {its : List Dq} {d : List Int} (h : Pl its.length d) (hr : Rise its d) {k j : Nat} (hk : k < d.length) (hj : d[k] = (j : Int)) (hjn : j < its.length) : ahd its (keyI its[j]) = opens ((inOrd its d).take k) := by
  rw [← ahd_perm (inOrd_perm h), ← inOrd_at hk hj hjn]
  unfold ahd
  rw [filter_rise hr (by rw [inOrd_len]; exact hk)]
theorem opens_take {s : List Dq} {k : Nat} (hk : k < s.length) : opens (s.take (k + 1)) = opens (s.take k) + s[k].opn := by
  rw [List.take_succ_eq_append_getElem hk, opens_app]; simp [opens]
/-- Paid so far: what the first k of d are. -/
def paidTo (its : List Dq) (amount : Int) (d : List Int) (k : Nat) : List Int := (payL its amount).mapIdx fun i x => if (i : Int) ∈ d.take k then x else 0
theorem paidTo_len (its : List Dq) (amount : Int) (d : List Int) (k : Nat) : (paidTo its amount d k).length = its.length := by simp [paidTo, payL]
theorem paidTo_zero (its : List Dq) (amount : Int) (d : List Int) : paidTo its amount d 0 = List.replicate its.length 0 := by
  apply List.ext_getElem (by simp [paidTo, payL])
  intro i h1 h2; simp [paidTo]
theorem paidTo_step {its : List Dq} {amount : Int} {d : List Int} {k j : Nat} (h : k < d.length) (hj : d[k] = (j : Int)) (hjq : j < its.length) :
    paidTo its amount d (k + 1) = (paidTo its amount d k).set j (paidI its amount its[j]) := by
  apply List.ext_getElem (by simp [paidTo, payL])
  intro i h1 h2
  rw [List.getElem_set]
  simp only [paidTo, payL, List.getElem_mapIdx, List.getElem_map, mem_take_succ h, hj]
  by_cases e : j = i
  · subst e; simp
  · have : ¬ ((i : Int) = (j : Int)) := by omega
    simp [e, this]
theorem paidTo_all {its : List Dq} {amount : Int} {d : List Int} (h : Pl its.length d) : paidTo its amount d d.length = payL its amount := by
  apply List.ext_getElem (by simp [paidTo, payL])
  intro i h1 h2
  simp only [paidTo, List.getElem_mapIdx, List.take_length]
  rw [if_pos]
  exact h.mem_iff.2 (List.mem_map.2 ⟨i, by simp [paidTo, payL] at h1; simpa using h1, rfl⟩)
/-- What is left behind the first k of d. -/
def leftTo (its : List Dq) (amount : Int) (d : List Int) (k : Nat) : Int := max 0 (amount - opens ((inOrd its d).take k))
theorem leftTo_zero {its : List Dq} {amount : Int} {d : List Int} (h : 0 ≤ amount) : leftTo its amount d 0 = amount := by simp [leftTo, opens]; omega
theorem leftTo_all {its : List Dq} {amount : Int} {d : List Int} (h : Pl its.length d) : leftTo its amount d d.length = leftI its amount := by
  unfold leftTo leftI
  rw [List.take_of_length_le (by rw [inOrd_len]; omega), opens_perm (inOrd_perm h)]
theorem pay_step {its : List Dq} {amount : Int} {d : List Int} (hok : its.all okI = true) (h : Pl its.length d) (hr : Rise its d) {k j : Nat} (hk : k < d.length) (hj : d[k] = (j : Int)) (hjn : j < its.length) :
    paidI its amount its[j] = min its[j].opn (leftTo its amount d k) ∧ leftTo its amount d (k + 1) = leftTo its amount d k - min its[j].opn (leftTo its amount d k) := by
  have h1 := ahd_at h hr hk hj hjn
  have h2 := okI_yes (List.all_eq_true.1 hok _ (List.getElem_mem hjn))
  have h3 : opens ((inOrd its d).take (k + 1)) = opens ((inOrd its d).take k) + its[j].opn := by
    rw [opens_take (by rw [inOrd_len]; exact hk), inOrd_at hk hj hjn]
  unfold paidI leftTo clampP
  rw [h1, h3]
  omega
theorem rise_srt {its : List Dq} {d : List Int} (h : Pl its.length d) (hr : Rise its d) : Srt (fun x => gt (its.map fun x => - keyI x) x.toNat) 0 its.length d := by
  intro p q p1 p2 p3
  have hl := h.len
  obtain ⟨i, ei, hi⟩ := h.at (k := p) (by omega)
  obtain ⟨j, ej, hj⟩ := h.at (k := q) (by omega)
  have := List.pairwise_iff_getElem.1 hr p q (by rw [inOrd_len]; omega) (by rw [inOrd_len]; omega) p2
  rw [inOrd_at (by omega) ei hi, inOrd_at (by omega) ej hj] at this
  rw [gt_eq d p (by omega), gt_eq d q (by omega), ei, ej]
  left
  simp only [Int.toNat_natCast]
  rw [gt_eq _ _ (by simpa using hj), gt_eq _ _ (by simpa using hi)]
  simp; omega
end Go.Proofs.Ytcoeooakimbkbaa
