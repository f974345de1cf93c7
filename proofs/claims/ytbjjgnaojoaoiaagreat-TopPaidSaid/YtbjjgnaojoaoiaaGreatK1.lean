/- Splitting an amount, in plain words: the quotients, what is left, who gets one more. -/
import Derived.Test.YtbjjgnaojoaoiaaGreatK0
import Derived.Test.YtbjjgnaojoaoiaaGreatChecked
import Derived.Deep.RegionHeld3
import Derived.Deep.RegionWith
import Derived.Deep.LoopGhost
import Derived.IntWalk
import Derived.Outline
import Derived.Sort.Grow
import Derived.Shelf.Small.Wraps
namespace Go.Proofs.YtbjjgnaojoaoiaaGreat
set_option linter.unusedVariables false
set_option linter.unusedSimpArgs false

def quoS (a T : Int) (ws : List Int) : List Int := ws.map fun w => a * w / T
def rstS (a T : Int) (ws : List Int) : List Int := ws.map fun w => a * w % T
theorem quoS_len (a T : Int) (ws : List Int) : (quoS a T ws).length = ws.length := by simp [quoS]
theorem rstS_len (a T : Int) (ws : List Int) : (rstS a T ws).length = ws.length := by simp [rstS]
def topS (q d : List Int) (k : Nat) : List Int := q.mapIdx fun i x => if (i : Int) ∈ d.take k then x + 1 else x
def markS (r d : List Int) (k : Nat) : List Int := r.mapIdx fun i x => if (i : Int) ∈ d.take k then -1 else x
theorem topS_len (q d : List Int) (k : Nat) : (topS q d k).length = q.length := by simp [topS]
theorem markS_len (r d : List Int) (k : Nat) : (markS r d k).length = r.length := by simp [markS]
theorem topS_zero (q d : List Int) : topS q d 0 = q := by
  apply List.ext_getElem (by simp [topS])
  intro i h1 h2; simp [topS]
theorem markS_zero (q d : List Int) : markS q d 0 = q := by
  apply List.ext_getElem (by simp [markS])
  intro i h1 h2; simp [markS]
theorem mem_take_succ {d : List Int} {k : Nat} (h : k < d.length) (x : Int) : x ∈ d.take (k + 1) ↔ x ∈ d.take k ∨ x = d[k] := by
  rw [List.take_succ_eq_append_getElem h, List.mem_append, List.mem_singleton]
theorem nodup_take {d : List Int} (hn : d.Nodup) {k : Nat} (h : k < d.length) : d[k] ∉ d.take k := by
  intro hm
  obtain ⟨j, hj, e⟩ := List.mem_iff_getElem.1 hm
  rw [List.getElem_take] at e
  have hj' : j < k := by simp at hj; omega
  exact List.pairwise_iff_getElem.1 hn j k (by omega) h hj' e
theorem topS_step {q d : List Int} (hn : d.Nodup) {k j : Nat} (h : k < d.length) (hj : d[k] = (j : Int)) (hjq : j < q.length) :
    topS q d (k + 1) = (topS q d k).set j ((topS q d k)[j]'(by rw [topS_len]; exact hjq) + 1) := by
  have hno := nodup_take hn h
  apply List.ext_getElem (by simp [topS])
  intro i h1 h2
  rw [List.getElem_set]
  simp only [topS, List.getElem_mapIdx, mem_take_succ h, hj]
  rw [hj] at hno
  by_cases e : j = i
  · subst e; simp [hno]
  · have : ¬ ((i : Int) = (j : Int)) := by omega
    simp [e, this]
theorem markS_step {q d : List Int} {k j : Nat} (h : k < d.length) (hj : d[k] = (j : Int)) (hjq : j < q.length) :
    markS q d (k + 1) = (markS q d k).set j (-1) := by
  apply List.ext_getElem (by simp [markS])
  intro i h1 h2
  rw [List.getElem_set]
  simp only [markS, List.getElem_mapIdx, mem_take_succ h, hj]
  by_cases e : j = i
  · subst e; simp
  · have : ¬ ((i : Int) = (j : Int)) := by omega
    simp [e, this]
theorem sum_set (l : List Int) (j : Nat) (h : j < l.length) (v : Int) : (l.set j v).sum = l.sum - l[j] + v := by
  induction l generalizing j with
  | nil => simp at h
  | cons x l ih =>
    cases j with
    | zero => simp; omega
    | succ j => simp only [List.set_cons_succ, List.sum_cons, List.getElem_cons_succ]; rw [ih j (by simpa using h)]; omega
/-- d names each of n places once. -/
def Pl (n : Nat) (d : List Int) : Prop := d.Perm ((List.range n).map fun (i : Nat) => (i : Int))
theorem Pl.len {n : Nat} {d : List Int} (h : Pl n d) : d.length = n := by have := h.length_eq; simpa using this
theorem Pl.nodup {n : Nat} {d : List Int} (h : Pl n d) : d.Nodup := by
  refine h.nodup_iff.2 ?_
  refine List.pairwise_iff_getElem.2 fun i j hi hj hij => ?_
  simp; omega
theorem Pl.at {n : Nat} {d : List Int} (h : Pl n d) {k : Nat} (hk : k < d.length) : ∃ j : Nat, d[k] = (j : Int) ∧ j < n := by
  have := h.mem_iff.1 (List.getElem_mem hk)
  obtain ⟨j, hj, e⟩ := List.mem_map.1 this
  exact ⟨j, e.symm, by simpa using hj⟩
theorem Pl.all {n : Nat} {d : List Int} (h : Pl n d) {j : Nat} (hj : j < n) : ∃ k, ∃ hk : k < d.length, d[k] = (j : Int) := by
  have : (j : Int) ∈ d := h.mem_iff.2 (List.mem_map.2 ⟨j, by simpa using hj, rfl⟩)
  exact List.mem_iff_getElem.1 this
theorem topS_sum {n : Nat} {q d : List Int} (h : Pl n d) (hq : q.length = n) : ∀ k, k ≤ n → (topS q d k).sum = q.sum + k
  | 0, _ => by rw [topS_zero]; simp
  | k + 1, hk => by
    have hl := h.len
    obtain ⟨j, e, hj⟩ := h.at (k := k) (by omega)
    rw [topS_step h.nodup (by omega) e (by omega), sum_set, topS_sum h hq k (by omega)]
    · omega
    · rw [topS_len]; omega
theorem sums {a T : Int} : ∀ ws : List Int, T * (quoS a T ws).sum + (rstS a T ws).sum = a * ws.sum
  | [] => by simp [quoS, rstS]
  | w :: ws => by
    have ih := sums (a := a) (T := T) ws
    have := Int.mul_ediv_add_emod (a * w) T
    simp only [quoS, rstS, List.map_cons, List.sum_cons] at ih ⊢
    rw [Int.mul_add, Int.mul_add]; omega
theorem sum_nonneg : ∀ {l : List Int}, (∀ x ∈ l, 0 ≤ x) → 0 ≤ l.sum
  | [], _ => by simp
  | x :: l, h => by have := sum_nonneg (l := l) (fun y hy => h y (by simp [hy])); have := h x (by simp); simp only [List.sum_cons]; omega
theorem sum_bound {T : Int} : ∀ {l : List Int}, (∀ x ∈ l, x ≤ T) → l.sum ≤ T * l.length
  | [], _ => by simp
  | x :: l, h => by
    have := sum_bound (l := l) (fun y hy => h y (by simp [hy])); have := h x (by simp)
    simp only [List.sum_cons, List.length_cons]
    have : T * ((l.length + 1 : Nat) : Int) = T * l.length + T := by rw [Int.natCast_add, Int.mul_add]; simp
    omega
/-- What is left, over T, of a less all quotients: no more than there are places. -/
theorem left_ex {a T : Int} {ws : List Int} (hT : 0 < T) (hs : ws.sum = T) (hn : 1 ≤ ws.length) : ∃ k : Nat, a - (quoS a T ws).sum = k ∧ k < ws.length := by
  have h1 := sums (a := a) (T := T) ws
  have h2 : 0 ≤ (rstS a T ws).sum := sum_nonneg (fun x hx => by obtain ⟨w, _, rfl⟩ := List.mem_map.1 hx; exact Int.emod_nonneg _ (by omega))
  have h3 : (rstS a T ws).sum ≤ (T - 1) * ((rstS a T ws).length : Int) := sum_bound (fun x hx => by obtain ⟨w, _, rfl⟩ := List.mem_map.1 hx; have := Int.emod_lt_of_pos (a * w) hT; omega)
  rw [rstS_len] at h3
  rw [hs] at h1
  have e : T * (a - (quoS a T ws).sum) = (rstS a T ws).sum := by rw [Int.mul_sub, Int.mul_comm T a]; omega
  have e0 : 0 ≤ a - (quoS a T ws).sum := by
    rcases Int.lt_or_le (a - (quoS a T ws).sum) 0 with h | h
    · have := Int.mul_neg_of_pos_of_neg hT h; omega
    · exact h
  have e1 : a - (quoS a T ws).sum < ws.length := by
    rcases Int.lt_or_le (a - (quoS a T ws).sum) ws.length with h | h
    · exact h
    · have h4 := Int.mul_le_mul_of_nonneg_left h (Int.le_of_lt hT)
      rw [e] at h4
      have h5 : (T - 1) * (ws.length : Int) = T * ws.length - ws.length := by rw [Int.sub_mul]; omega
      omega
  exact ⟨(a - (quoS a T ws).sum).toNat, by omega, by omega⟩
theorem prefix_sum {a T : Int} {ws : List Int} (hT : 0 < T) (hw : ∀ w ∈ ws, 0 ≤ w) (hs : ws.sum = T) (ha : -4611686018427387904 ≤ a ∧ a ≤ 4611686018427387904) (hn : ws.length ≤ 1000) (k : Nat) :
    -4611686018427389000 ≤ (quoS a T (ws.take k)).sum ∧ (quoS a T (ws.take k)).sum ≤ 4611686018427387904 := by
  have h1 := sums (a := a) (T := T) (ws.take k)
  have h2 : 0 ≤ (rstS a T (ws.take k)).sum := sum_nonneg (fun x hx => by obtain ⟨w, _, rfl⟩ := List.mem_map.1 hx; exact Int.emod_nonneg _ (by omega))
  have h3 : (rstS a T (ws.take k)).sum ≤ T * ((rstS a T (ws.take k)).length : Int) := sum_bound (fun x hx => by obtain ⟨w, _, rfl⟩ := List.mem_map.1 hx; have := Int.emod_lt_of_pos (a * w) hT; omega)
  have h4 : 0 ≤ (ws.take k).sum := sum_nonneg (fun x hx => hw x (List.mem_of_mem_take hx))
  have h5 : 0 ≤ (ws.drop k).sum := sum_nonneg (fun x hx => hw x (List.mem_of_mem_drop hx))
  have h6 : (ws.take k).sum + (ws.drop k).sum = T := by rw [← List.sum_append, List.take_append_drop, hs]
  have h7 : (rstS a T (ws.take k)).length ≤ 1000 := by rw [rstS_len, List.length_take]; omega
  generalize (quoS a T (ws.take k)).sum = Q at *
  generalize (rstS a T (ws.take k)).sum = R at *
  generalize (rstS a T (ws.take k)).length = n at *
  generalize (ws.take k).sum = S at *
  have h8 : T * (n : Int) ≤ T * 1000 := Int.mul_le_mul_of_nonneg_left (by omega) (by omega)
  constructor
  · rcases Int.lt_or_le Q (-4611686018427389000) with h | h
    · have : T * Q ≤ T * (-4611686018427389001) := Int.mul_le_mul_of_nonneg_left (by omega) (by omega)
      have e1 : -4611686018427387904 * S ≤ a * S := Int.mul_le_mul_of_nonneg_right ha.1 h4
      omega
    · exact h
  · rcases Int.lt_or_le 4611686018427387904 Q with h | h
    · have : T * 4611686018427387905 ≤ T * Q := Int.mul_le_mul_of_nonneg_left (by omega) (by omega)
      have e1 : a * S ≤ 4611686018427387904 * S := Int.mul_le_mul_of_nonneg_right ha.2 h4
      omega
    · exact h
theorem quo_bound {a T w : Int} (hT : 0 < T) (hw : 0 ≤ w) (hwT : w ≤ T) (ha : -4611686018427387904 ≤ a ∧ a ≤ 4611686018427387904) : -4611686018427387904 ≤ a * w / T ∧ a * w / T ≤ 4611686018427387904 := by
  have h1 : -4611686018427387904 * w ≤ a * w := Int.mul_le_mul_of_nonneg_right ha.1 hw
  have h2 : a * w ≤ 4611686018427387904 * w := Int.mul_le_mul_of_nonneg_right ha.2 hw
  constructor
  · rw [Int.le_ediv_iff_mul_le hT]; omega
  · have : a * w / T < 4611686018427387905 := by rw [Int.ediv_lt_iff_lt_mul hT]; omega
    omega
theorem le_sum {ws : List Int} (hw : ∀ w ∈ ws, 0 ≤ w) {w : Int} (h : w ∈ ws) : w ≤ ws.sum := by
  induction ws with
  | nil => cases h
  | cons x l ih =>
    have h0 : 0 ≤ l.sum := sum_nonneg (fun y hy => hw y (by simp [hy]))
    have hx := hw x (by simp)
    simp only [List.sum_cons]
    rcases List.mem_cons.1 h with rfl | h
    · omega
    · have := ih (fun y hy => hw y (by simp [hy])) h; omega

/-- The first one by the order among those of i places that are not marked; -1: all are. -/
def Best (r d : List Int) (k i : Nat) (b : Int) : Prop :=
  (b = -1 ∧ ∀ p : Nat, p < i → (p : Int) ∈ d.take k) ∨ (∃ j : Nat, b = j ∧ j < i ∧ (j : Int) ∉ d.take k ∧ ∀ p : Nat, p < i → p ≠ j → (p : Int) ∉ d.take k → gt r p < gt r j ∨ (gt r p = gt r j ∧ j < p))
theorem Best.start (r d : List Int) (k : Nat) : Best r d k 0 (-1) := .inl ⟨rfl, fun p hp => by omega⟩
theorem Best.marked {r d : List Int} {k i : Nat} {b : Int} (h : Best r d k i b) (hm : (i : Int) ∈ d.take k) : Best r d k (i + 1) b := by
  rcases h with ⟨rfl, h⟩ | ⟨j, rfl, h1, h2, h3⟩
  · exact .inl ⟨rfl, fun p hp => by by_cases e : p = i; · subst e; exact hm
                                    · exact h p (by omega)⟩
  · exact .inr ⟨j, rfl, by omega, h2, fun p hp hne hu => by
      by_cases e : p = i
      · subst e; exact absurd hm hu
      · exact h3 p (by omega) hne hu⟩
theorem Best.fresh {r d : List Int} {k i : Nat} {b : Int} (h : Best r d k i b) (hm : (i : Int) ∉ d.take k) (hb : b < 0 ∨ gt r b.toNat < gt r i) : Best r d k (i + 1) i := by
  rcases h with ⟨rfl, h⟩ | ⟨j, rfl, h1, h2, h3⟩
  · exact .inr ⟨i, rfl, by omega, hm, fun p hp hne hu => absurd (h p (by omega)) hu⟩
  · refine .inr ⟨i, rfl, by omega, hm, fun p hp hne hu => ?_⟩
    have hb' : gt r j < gt r i := by rcases hb with h | h; · omega
                                     · simpa using h
    by_cases e : p = j
    · subst e; exact .inl hb'
    · have := h3 p (by omega) e hu; omega
theorem Best.stays {r d : List Int} {k i : Nat} {b : Int} (h : Best r d k i b) (h0 : 0 ≤ b) (hb : ¬ gt r b.toNat < gt r i) : Best r d k (i + 1) b := by
  rcases h with ⟨rfl, h⟩ | ⟨j, rfl, h1, h2, h3⟩
  · omega
  · refine .inr ⟨j, rfl, by omega, h2, fun p hp hne hu => ?_⟩
    by_cases e : p = i
    · subst e; rw [Int.toNat_natCast] at hb; omega
    · exact h3 p (by omega) hne hu
theorem Best.is {r d : List Int} {n k : Nat} {b : Int} (h : Best r d k n b) (hp : Pl n d) (hs : Srt (fun x => gt r x.toNat) 0 n d) (hk : k < n) : b = gt d k := by
  have hl := hp.len
  have hno := nodup_take hp.nodup (k := k) (by omega)
  obtain ⟨j0, e0, hj0⟩ := hp.at (k := k) (by omega)
  rw [e0] at hno
  rw [gt_eq d k (by omega), e0]
  rcases h with ⟨rfl, h⟩ | ⟨j, rfl, h1, h2, h3⟩
  · exact absurd (h j0 hj0) hno
  · by_cases e : j = j0
    · rw [e]
    · have h4 := h3 j0 hj0 (by omega) hno
      obtain ⟨t, ht, et⟩ := hp.all h1
      have htk : k < t := by
        rcases Nat.lt_trichotomy t k with h | h | h
        · exact absurd (List.mem_iff_getElem.2 ⟨t, by simp; omega, by rw [List.getElem_take]; exact et⟩) h2
        · subst h; rw [e0] at et; omega
        · exact h
      have h5 := hs k t (by omega) htk (by omega)
      rw [gt_eq d k (by omega), gt_eq d t ht, e0, et] at h5
      unfold Rk at h5
      simp only [Int.toNat_natCast] at h5
      omega
end Go.Proofs.YtbjjgnaojoaoiaaGreat
/- Paying items in order, in plain words. -/
namespace Go.Proofs.YtbjjgnaojoaoiaaGreat
set_option linter.unusedVariables false
set_option linter.unusedSimpArgs false

structure Dq where
  due : Int
  kind : Int
  per : Int
  opn : Int
def okI (x : Dq) : Bool := decide (0 ≤ x.due ∧ x.due ≤ 3652058 ∧ 0 ≤ x.kind ∧ x.kind ≤ 2 ∧ 1 ≤ x.per ∧ x.per ≤ 99999 ∧ 0 ≤ x.opn ∧ x.opn ≤ 4611686018427387904)
def keyI (x : Dq) : Int := (x.due * 4 + x.kind) * 100000 + x.per
theorem okI_yes {x : Dq} (h : okI x = true) : 0 ≤ x.due ∧ x.due ≤ 3652058 ∧ 0 ≤ x.kind ∧ x.kind ≤ 2 ∧ 1 ≤ x.per ∧ x.per ≤ 99999 ∧ 0 ≤ x.opn ∧ x.opn ≤ 4611686018427387904 := by simpa [okI] using h
theorem keyI_bd {x : Dq} (h : okI x = true) : 0 ≤ keyI x ∧ keyI x ≤ 2000000000000 := by have := okI_yes h; unfold keyI; omega
/-- Lexicographic, as the text compares. -/
def aheadI (a b : Dq) : Bool := if a.due ≠ b.due then decide (a.due < b.due) else if a.kind ≠ b.kind then decide (a.kind < b.kind) else decide (a.per < b.per)
theorem aheadI_key {a b : Dq} (ha : okI a = true) (hb : okI b = true) : aheadI a b = decide (keyI a < keyI b) := by
  have h1 := okI_yes ha
  have h2 := okI_yes hb
  unfold aheadI keyI
  by_cases e1 : a.due = b.due
  · by_cases e2 : a.kind = b.kind
    · simp only [e1, e2, ne_eq, not_true_eq_false, if_false]; congr 1; exact propext ⟨by omega, by omega⟩
    · simp only [e1, e2, ne_eq, not_true_eq_false, not_false_eq_true, if_true, if_false]; congr 1; exact propext ⟨by omega, by omega⟩
  · simp only [e1, ne_eq, not_false_eq_true, if_true]; congr 1; exact propext ⟨by omega, by omega⟩
/-- What may be wrong with items: 1, 5, or nothing. -/
def placesE (its : List Dq) : Int := if its.length ≤ 200 ∧ its.all okI = true then (if (its.map keyI).Nodup then 0 else 5) else 1

def opens (its : List Dq) : Int := (its.map Dq.opn).sum
/-- What is open ahead of a key. -/
def ahd (its : List Dq) (k : Int) : Int := opens (its.filter fun x => decide (keyI x < k))
def clampP (o n : Int) : Int := max 0 (min o n)
def paidI (its : List Dq) (amount : Int) (x : Dq) : Int := clampP x.opn (amount - ahd its (keyI x))
def payL (its : List Dq) (amount : Int) : List Int := its.map (paidI its amount)
def leftI (its : List Dq) (amount : Int) : Int := max 0 (amount - opens its)

theorem sum_perm {a b : List Int} (h : a.Perm b) : a.sum = b.sum := by
  induction h with
  | nil => rfl
  | cons x _ ih => simp [ih]
  | swap x y l => simp only [List.sum_cons]; omega
  | trans _ _ h1 h2 => exact h1.trans h2
theorem opens_perm {a b : List Dq} (h : a.Perm b) : opens a = opens b := sum_perm (h.map _)
theorem ahd_perm {a b : List Dq} (h : a.Perm b) (k : Int) : ahd a k = ahd b k := opens_perm (h.filter _)
theorem opens_app (a b : List Dq) : opens (a ++ b) = opens a + opens b := by simp [opens]
theorem opens_nonneg {its : List Dq} (h : its.all okI = true) : 0 ≤ opens its := sum_nonneg fun x hx => by
  obtain ⟨q, hq, rfl⟩ := List.mem_map.1 hx
  have := okI_yes (List.all_eq_true.1 h q hq); omega
theorem opens_bound : ∀ {its : List Dq}, its.all okI = true → opens its ≤ 4611686018427387904 * its.length
  | [], _ => by simp [opens]
  | x :: l, h => by
    simp only [List.all_cons, Bool.and_eq_true] at h
    have h1 := opens_bound h.2
    have h2 := okI_yes h.1
    have e : opens (x :: l) = x.opn + opens l := by simp [opens]
    rw [e, List.length_cons]; omega
theorem ahd_nonneg {its : List Dq} (h : its.all okI = true) (k : Int) : 0 ≤ ahd its k := opens_nonneg (List.all_eq_true.2 fun x hx => List.all_eq_true.1 h x (List.mem_filter.1 hx).1)

/-- Items in the order in which they are paid. -/
def inOrd (its : List Dq) (d : List Int) : List Dq := d.map fun i => its.getD i.toNat ⟨0, 0, 0, 0⟩
theorem inOrd_perm {its : List Dq} {d : List Int} (h : Pl its.length d) : (inOrd its d).Perm its := by
  have h1 : (inOrd its d).Perm (((List.range its.length).map fun (i : Nat) => (i : Int)).map fun i => its.getD i.toNat ⟨0, 0, 0, 0⟩) := List.Perm.map _ h
  have h2 : (((List.range its.length).map fun (i : Nat) => (i : Int)).map fun i => its.getD i.toNat ⟨0, 0, 0, 0⟩) = its := by
    apply List.ext_getElem (by simp)
    intro i h1 h2; simp at h1; simp [h1]
  rw [h2] at h1; exact h1
theorem inOrd_len (its : List Dq) (d : List Int) : (inOrd its d).length = d.length := by simp [inOrd]
theorem inOrd_at {its : List Dq} {d : List Int} {k j : Nat} (hk : k < d.length) (hj : d[k] = (j : Int)) (hjn : j < its.length) : (inOrd its d)[k]'(by rw [inOrd_len]; exact hk) = its[j] := by
  simp [inOrd, hj, hjn]
/-- d names the items in rising order of their keys. -/
def Rise (its : List Dq) (d : List Int) : Prop := (inOrd its d).Pairwise fun a b => keyI a < keyI b
theorem filter_rise {s : List Dq} (h : s.Pairwise fun a b => keyI a < keyI b) {k : Nat} (hk : k < s.length) : s.filter (fun x => decide (keyI x < keyI s[k])) = s.take k := by
  induction s generalizing k with
  | nil => simp at hk
  | cons x s ih =>
    rw [List.pairwise_cons] at h
    cases k with
    | zero =>
      simp only [List.getElem_cons_zero, List.take_zero]
      rw [List.filter_eq_nil_iff]
      intro y hy
      rcases List.mem_cons.1 hy with rfl | hy
      · simp
      · have := h.1 y hy; simp; omega
    | succ k =>
      simp only [List.getElem_cons_succ, List.take_succ_cons]
      have hx := h.1 _ (List.getElem_mem (l := s) (n := k) (by simpa using hk))
      rw [List.filter_cons_of_pos (by simpa using hx), ih h.2 (by simpa using hk)]
theorem ahd_at {its : List Dq} {d : List Int} (h : Pl its.length d) (hr : Rise its d) {k j : Nat} (hk : k < d.length) (hj : d[k] = (j : Int)) (hjn : j < its.length) : ahd its (keyI its[j]) = opens ((inOrd its d).take k) := by
  rw [← ahd_perm (inOrd_perm h), ← inOrd_at hk hj hjn]
  unfold ahd
  rw [filter_rise hr (by rw [inOrd_len]; exact hk)]
theorem opens_take {s : List Dq} {k : Nat} (hk : k < s.length) : opens (s.take (k + 1)) = opens (s.take k) + s[k].opn := by
  rw [List.take_succ_eq_append_getElem hk, opens_app]; simp [opens]
/-- Paid so far: what the first k of d are. -/
def paidTo (its : List Dq) (amount : Int) (d : List Int) (k : Nat) : List Int := (payL its amount).mapIdx fun i x => if (i : Int) ∈ d.take k then x else 0
theorem paidTo_len (its : List Dq) (amount : Int) (d : List Int) (k : Nat) : (paidTo its amount d k).length = its.length := by simp [paidTo, payL]
theorem paidTo_zero (its : List Dq) (amount : Int) (d : List Int) : paidTo its amount d 0 = List.replicate its.length 0 := by
  apply List.ext_getElem (by simp [paidTo, payL])
  intro i h1 h2; simp [paidTo]
theorem paidTo_step {its : List Dq} {amount : Int} {d : List Int} {k j : Nat} (h : k < d.length) (hj : d[k] = (j : Int)) (hjq : j < its.length) :
    paidTo its amount d (k + 1) = (paidTo its amount d k).set j (paidI its amount its[j]) := by
  apply List.ext_getElem (by simp [paidTo, payL])
  intro i h1 h2
  rw [List.getElem_set]
  simp only [paidTo, payL, List.getElem_mapIdx, List.getElem_map, mem_take_succ h, hj]
  by_cases e : j = i
  · subst e; simp
  · have : ¬ ((i : Int) = (j : Int)) := by omega
    simp [e, this]
theorem paidTo_all {its : List Dq} {amount : Int} {d : List Int} (h : Pl its.length d) : paidTo its amount d d.length = payL its amount := by
  apply List.ext_getElem (by simp [paidTo, payL])
  intro i h1 h2
  simp only [paidTo, List.getElem_mapIdx, List.take_length]
  rw [if_pos]
  exact h.mem_iff.2 (List.mem_map.2 ⟨i, by simp [paidTo, payL] at h1; simpa using h1, rfl⟩)
/-- What is left behind the first k of d. -/
def leftTo (its : List Dq) (amount : Int) (d : List Int) (k : Nat) : Int := max 0 (amount - opens ((inOrd its d).take k))
theorem leftTo_zero {its : List Dq} {amount : Int} {d : List Int} (h : 0 ≤ amount) : leftTo its amount d 0 = amount := by simp [leftTo, opens]; omega
theorem leftTo_all {its : List Dq} {amount : Int} {d : List Int} (h : Pl its.length d) : leftTo its amount d d.length = leftI its amount := by
  unfold leftTo leftI
  rw [List.take_of_length_le (by rw [inOrd_len]; omega), opens_perm (inOrd_perm h)]
theorem pay_step {its : List Dq} {amount : Int} {d : List Int} (hok : its.all okI = true) (h : Pl its.length d) (hr : Rise its d) {k j : Nat} (hk : k < d.length) (hj : d[k] = (j : Int)) (hjn : j < its.length) :
    paidI its amount its[j] = min its[j].opn (leftTo its amount d k) ∧ leftTo its amount d (k + 1) = leftTo its amount d k - min its[j].opn (leftTo its amount d k) := by
  have h1 := ahd_at h hr hk hj hjn
  have h2 := okI_yes (List.all_eq_true.1 hok _ (List.getElem_mem hjn))
  have h3 : opens ((inOrd its d).take (k + 1)) = opens ((inOrd its d).take k) + its[j].opn := by
    rw [opens_take (by rw [inOrd_len]; exact hk), inOrd_at hk hj hjn]
  unfold paidI leftTo clampP
  rw [h1, h3]
  omega
theorem rise_srt {its : List Dq} {d : List Int} (h : Pl its.length d) (hr : Rise its d) : Srt (fun x => gt (its.map fun x => - keyI x) x.toNat) 0 its.length d := by
  intro p q p1 p2 p3
  have hl := h.len
  obtain ⟨i, ei, hi⟩ := h.at (k := p) (by omega)
  obtain ⟨j, ej, hj⟩ := h.at (k := q) (by omega)
  have := List.pairwise_iff_getElem.1 hr p q (by rw [inOrd_len]; omega) (by rw [inOrd_len]; omega) p2
  rw [inOrd_at (by omega) ei hi, inOrd_at (by omega) ej hj] at this
  rw [gt_eq d p (by omega), gt_eq d q (by omega), ei, ej]
  left
  simp only [Int.toNat_natCast]
  rw [gt_eq _ _ (by simpa using hj), gt_eq _ _ (by simpa using hi)]
  simp; omega
end Go.Proofs.YtbjjgnaojoaoiaaGreat
/- What comes of paying items in order. -/
namespace Go.Proofs.YtbjjgnaojoaoiaaGreat
set_option linter.unusedVariables false
set_option linter.unusedSimpArgs false

theorem placesE_ok {its : List Dq} (h : placesE its = 0) : its.length ≤ 200 ∧ its.all okI = true ∧ (its.map keyI).Nodup := by
  unfold placesE at h
  by_cases h1 : its.length ≤ 200 ∧ its.all okI = true
  · rw [if_pos h1] at h
    by_cases h2 : (its.map keyI).Nodup
    · exact ⟨h1.1, h1.2, h2⟩
    · rw [if_neg h2] at h; omega
  · rw [if_neg h1] at h; omega
theorem placesE_cases (its : List Dq) : placesE its = 0 ∨ placesE its = 1 ∨ placesE its = 5 := by
  unfold placesE; split
  · split <;> simp
  · simp
/-- Sorted, and no two neighbours of one key: rising. -/
theorem rise_of' {s : List Dq} (hs : s.Pairwise fun a b => ¬ keyI b < keyI a) (hn : ∀ k (h : k + 1 < s.length), keyI (s[k]) ≠ keyI (s[k + 1])) : s.Pairwise fun a b => keyI a < keyI b := by
  rw [List.pairwise_iff_getElem] at hs ⊢
  intro i j hi hj hij
  have h1 := hn i (by omega)
  have h2 := hs i (i + 1) hi (by omega) (by omega)
  by_cases e : i + 1 = j
  · subst e; omega
  · have h3 := hs (i + 1) j (by omega) hj (by omega); omega
theorem rise_of {its : List Dq} {d : List Int} (hs : (inOrd its d).Pairwise fun a b => ¬ keyI b < keyI a) (hn : ∀ k (h : k + 1 < (inOrd its d).length), keyI ((inOrd its d)[k]) ≠ keyI ((inOrd its d)[k + 1])) : Rise its d := rise_of' hs hn
theorem rise_nodup {its : List Dq} {d : List Int} (h : Pl its.length d) (hr : Rise its d) : (its.map keyI).Nodup := by
  have h1 : ((inOrd its d).map keyI).Nodup := by
    refine List.pairwise_map.2 (hr.imp ?_)
    intro a b hab; omega
  exact ((inOrd_perm h).map keyI).nodup_iff.1 h1
theorem not_nodup {its : List Dq} {d : List Int} (h : Pl its.length d) {k : Nat} (hk : k + 1 < (inOrd its d).length) (e : keyI ((inOrd its d)[k]) = keyI ((inOrd its d)[k + 1])) : ¬ (its.map keyI).Nodup := fun hn => by
  have h1 := ((inOrd_perm h).map keyI).nodup_iff.2 hn
  have := List.pairwise_iff_getElem.1 h1 k (k + 1) (by simp; omega) (by simpa using hk) (by omega)
  simp at this
  exact this e
theorem two_nodup {its : List Dq} {i j : Nat} (hi : i < its.length) (hj : j < its.length) (hij : i ≠ j) (e : keyI its[i] = keyI its[j]) : ¬ (its.map keyI).Nodup := fun hn => by
  rcases Nat.lt_or_gt_of_ne hij with h | h
  · have := List.pairwise_iff_getElem.1 hn i j (by simpa using hi) (by simpa using hj) h
    simp at this; exact this e
  · have := List.pairwise_iff_getElem.1 hn j i (by simpa using hj) (by simpa using hi) h
    simp at this; exact this e.symm
theorem nodup_of {its : List Dq} (h : ∀ i j (hi : i < its.length) (hj : j < i), keyI its[i] ≠ keyI its[j]) : (its.map keyI).Nodup := by
  refine List.pairwise_iff_getElem.2 fun i j hi hj hij => ?_
  simp; exact fun e => h j i (by simpa using hj) hij e.symm
theorem rank_at {its : List Dq} {d : List Int} (h : Pl its.length d) (hr : Rise its d) {k j : Nat} (hk : k < d.length) (hj : d[k] = (j : Int)) (hjn : j < its.length) : (its.countP fun x => decide (keyI x < keyI its[j])) = k := by
  rw [← (inOrd_perm h).countP_eq, ← inOrd_at hk hj hjn, List.countP_eq_length_filter, filter_rise hr (by rw [inOrd_len]; exact hk), List.length_take, inOrd_len]; omega
/-- The ones ahead, and one that is ahead of no less, are no more than all ahead of a greater key. -/
theorem filter_le {its : List Dq} (hok : its.all okI = true) {p q : Dq → Bool} (hpq : ∀ x, p x = true → q x = true) {x : Dq} (hx : x ∈ its) (hp : p x = false) (hq : q x = true) : opens (its.filter p) + x.opn ≤ opens (its.filter q) := by
  have mono : ∀ l : List Dq, l.all okI = true → opens (l.filter p) ≤ opens (l.filter q) := by
    intro l
    induction l with
    | nil => intro _; simp
    | cons y l ih =>
      intro hl
      simp only [List.all_cons, Bool.and_eq_true] at hl
      have h1 := ih hl.2
      have h2 := okI_yes hl.1
      have e : ∀ l, opens (y :: l) = y.opn + opens l := fun l => by simp [opens]
      rw [List.filter_cons, List.filter_cons]
      by_cases hp : p y = true
      · rw [if_pos hp, if_pos (hpq y hp), e, e]; omega
      · rw [if_neg hp]; split
        · rw [e]; omega
        · exact h1
  induction its with
  | nil => cases hx
  | cons y l ih =>
    simp only [List.all_cons, Bool.and_eq_true] at hok
    have e : ∀ l, opens (y :: l) = y.opn + opens l := fun l => by simp [opens]
    have h2 := okI_yes hok.1
    have h3 := mono l hok.2
    rw [List.filter_cons, List.filter_cons]
    rcases List.mem_cons.1 hx with rfl | hx
    · rw [if_neg (by simp [hp]), if_pos hq, e]; omega
    · have h1 := ih hok.2 hx
      by_cases hp : p y = true
      · rw [if_pos hp, if_pos (hpq y hp), e, e]; omega
      · rw [if_neg hp]; split
        · rw [e]; omega
        · exact h1
theorem ahd_lt {its : List Dq} (hok : its.all okI = true) {x : Dq} (hx : x ∈ its) {K : Int} (h : keyI x < K) : ahd its (keyI x) + x.opn ≤ ahd its K :=
  filter_le hok (fun y hy => by simp at hy ⊢; omega) hx (by simp) (by simpa using h)
theorem ahd_all {its : List Dq} (hok : its.all okI = true) {x : Dq} (hx : x ∈ its) : ahd its (keyI x) + x.opn ≤ opens its := by
  have := filter_le hok (p := fun y => decide (keyI y < keyI x)) (q := fun _ => true) (fun _ _ => rfl) hx (by simp) rfl
  rw [List.filter_eq_self.2 (fun _ _ => rfl)] at this; exact this
theorem paid_bd {its : List Dq} (hok : its.all okI = true) {amount : Int} {x : Dq} (hx : x ∈ its) : 0 ≤ paidI its amount x ∧ paidI its amount x ≤ x.opn := by
  have := okI_yes (List.all_eq_true.1 hok x hx)
  unfold paidI clampP; omega
/-- All that is paid, and what is left, are the amount. -/
theorem paidSum {its : List Dq} {amount : Int} {d : List Int} (hok : its.all okI = true) (h : Pl its.length d) (hr : Rise its d) (ha : 0 ≤ amount) : (payL its amount).sum = amount - leftI its amount := by
  have key : ∀ k, k ≤ d.length → (paidTo its amount d k).sum = amount - leftTo its amount d k := by
    intro k
    induction k with
    | zero => intro _; rw [paidTo_zero, leftTo_zero ha]; have : ∀ n, (List.replicate n (0 : Int)).sum = 0 := fun n => by induction n with | zero => rfl | succ n ih => simp [List.replicate_succ, ih]
              rw [this]; omega
    | succ k ih =>
      intro hk
      obtain ⟨j, ej, hj⟩ := h.at (k := k) (by omega)
      obtain ⟨p1, p2⟩ := pay_step (amount := amount) hok h hr (by omega) ej hj
      have h0 : (paidTo its amount d k)[j]'(by rw [paidTo_len]; exact hj) = 0 := by
        have hno := nodup_take h.nodup (k := k) (by omega)
        rw [ej] at hno
        simp [paidTo, hno]
      rw [paidTo_step (by omega) ej hj, sum_set _ _ (by rw [paidTo_len]; exact hj), ih (by omega), h0, p2, p1]; omega
  rw [← paidTo_all h, key _ (Nat.le_refl _), leftTo_all h]
theorem sum_take_le {l : List Int} (h : ∀ x ∈ l, 0 ≤ x) (k : Nat) : (l.take k).sum ≤ l.sum := by
  have h5 : 0 ≤ (l.drop k).sum := sum_nonneg (fun x hx => h x (List.mem_of_mem_drop hx))
  have h6 : (l.take k).sum + (l.drop k).sum = l.sum := by rw [← List.sum_append, List.take_append_drop]
  omega
/-- What is open once an amount was paid. -/
def restI (its : List Dq) (a : Int) : List Dq := its.map fun x => ⟨x.due, x.kind, x.per, x.opn - paidI its a x⟩
theorem rest_ok {its : List Dq} (hok : its.all okI = true) (a : Int) : (restI its a).all okI = true := by
  rw [List.all_eq_true]
  intro y hy
  obtain ⟨x, hx, rfl⟩ := List.mem_map.1 hy
  have h1 := okI_yes (List.all_eq_true.1 hok x hx)
  have h2 := paid_bd hok (amount := a) hx
  simp only [okI, decide_eq_true_eq]; omega
theorem rest_keys (its : List Dq) (a : Int) : (restI its a).map keyI = its.map keyI := by simp [restI, keyI]
theorem rest_places {its : List Dq} (h : placesE its = 0) (a : Int) : placesE (restI its a) = 0 := by
  obtain ⟨h1, h2, h3⟩ := placesE_ok h
  unfold placesE
  rw [if_pos ⟨by simpa [restI] using h1, rest_ok h2 a⟩, if_pos (by rw [rest_keys]; exact h3)]
theorem rest_ahd {its : List Dq} {d : List Int} {a : Int} (hok : its.all okI = true) (h : Pl its.length d) (hr : Rise its d) (ha : 0 ≤ a) {x : Dq} (hx : x ∈ its) : ahd (restI its a) (keyI x) = max 0 (ahd its (keyI x) - a) := by
  obtain ⟨j, hj, rfl⟩ := List.mem_iff_getElem.1 hx
  obtain ⟨k, hk, ek⟩ := h.all hj
  have hl : (restI its a).length = its.length := by simp [restI]
  have h' : Pl (restI its a).length d := by rw [hl]; exact h
  have ein : inOrd (restI its a) d = (inOrd its d).map fun x => ⟨x.due, x.kind, x.per, x.opn - paidI its a x⟩ := by
    unfold inOrd restI
    rw [List.map_map]
    apply List.map_congr_left
    intro i hi
    obtain ⟨t, ht, et⟩ := List.mem_iff_getElem.1 hi
    obtain ⟨u, eu, hu⟩ := h.at ht
    rw [← et, eu]; simp [hu]
  have hr' : Rise (restI its a) d := by
    unfold Rise; rw [ein, List.pairwise_map]; exact hr
  have e1 := ahd_at h' hr' hk ek (by rw [hl]; exact hj)
  have e2 := ahd_at h hr hk ek hj
  have e3 : keyI ((restI its a)[j]'(by rw [hl]; exact hj)) = keyI its[j] := by simp [restI, keyI]
  rw [e3] at e1
  rw [e1, e2, ein, ← List.map_take]
  have key : ∀ k, k ≤ d.length → opens (((inOrd its d).take k).map fun x => ⟨x.due, x.kind, x.per, x.opn - paidI its a x⟩) = opens ((inOrd its d).take k) - (a - leftTo its a d k) := by
    intro k
    induction k with
    | zero => intro _; rw [leftTo_zero ha]; simp [opens]
    | succ k ih =>
      intro hk
      obtain ⟨i, ei, hi⟩ := h.at (k := k) (by omega)
      obtain ⟨p1, p2⟩ := pay_step (amount := a) hok h hr (by omega) ei hi
      have hk' : k < (inOrd its d).length := by rw [inOrd_len]; omega
      have e4 := inOrd_at (its := its) (by omega) ei hi
      rw [List.take_succ_eq_append_getElem hk', List.map_append, opens_app, opens_app, ih (by omega), e4, p2]
      have e5 : ∀ y : Dq, opens [y] = y.opn := fun y => by simp [opens]
      simp only [List.map_cons, List.map_nil, e5]
      rw [p1]; omega
  rw [key k (by omega)]
  unfold leftTo
  omega
/-- Two payments, one behind the other. -/
theorem twice {its : List Dq} {d : List Int} {a b : Int} (hok : its.all okI = true) (h : Pl its.length d) (hr : Rise its d) (ha : 0 ≤ a) (hb : 0 ≤ b) {x : Dq} (hx : x ∈ its) :
    paidI its a x + paidI (restI its a) b ⟨x.due, x.kind, x.per, x.opn - paidI its a x⟩ = paidI its (a + b) x := by
  have e : keyI (⟨x.due, x.kind, x.per, x.opn - paidI its a x⟩ : Dq) = keyI x := rfl
  have h1 := ahd_nonneg hok (keyI x)
  have h2 := okI_yes (List.all_eq_true.1 hok x hx)
  have h3 := rest_ahd hok h hr ha hx
  have e2 : paidI (restI its a) b ⟨x.due, x.kind, x.per, x.opn - paidI its a x⟩ = clampP (x.opn - paidI its a x) (b - max 0 (ahd its (keyI x) - a)) := by
    show clampP _ (b - ahd (restI its a) (keyI _)) = _
    rw [e, h3]
  rw [e2]
  unfold paidI clampP
  omega
theorem twice_left {its : List Dq} {d : List Int} {a b : Int} (hok : its.all okI = true) (h : Pl its.length d) (hr : Rise its d) (ha : 0 ≤ a) (hb : 0 ≤ b) : leftI its a + leftI (restI its a) b = leftI its (a + b) := by
  have h1 := paidSum hok h hr ha
  have e : opens (restI its a) = opens its - (payL its a).sum := by
    clear h1 h hr
    unfold restI payL
    generalize paidI its a = f
    induction its with
    | nil => simp [opens]
    | cons x l ih =>
      simp only [List.all_cons, Bool.and_eq_true] at hok
      have := ih hok.2
      simp only [opens, List.map_cons, List.sum_cons] at this ⊢; omega
  have h0 := opens_nonneg hok
  unfold leftI at *
  omega
theorem rev_paid (its : List Dq) (a : Int) : payL its.reverse a = (payL its a).reverse := by
  unfold payL
  rw [← List.map_reverse]
  apply List.map_congr_left
  intro x _
  unfold paidI
  rw [ahd_perm (List.reverse_perm its)]
theorem rev_left (its : List Dq) (a : Int) : leftI its.reverse a = leftI its a := by unfold leftI; rw [opens_perm (List.reverse_perm its)]
theorem rev_places (its : List Dq) : placesE its.reverse = placesE its := by
  have e : (its.reverse.map keyI).Nodup ↔ (its.map keyI).Nodup := ((List.reverse_perm its).map keyI).nodup_iff
  unfold placesE
  simp only [List.length_reverse, List.all_reverse, e]
/-- All that is open pays all. -/
theorem whole_paid {its : List Dq} (hok : its.all okI = true) {x : Dq} (hx : x ∈ its) : paidI its (opens its) x = x.opn := by
  have h1 := ahd_all hok hx
  have h2 := okI_yes (List.all_eq_true.1 hok x hx)
  unfold paidI clampP; omega
theorem less_paid {its : List Dq} (hok : its.all okI = true) {l : Dq} (hl : l ∈ its) (hlo : 0 < l.opn) {x : Dq} (hx : x ∈ its) (hk : 0 < x.opn → keyI x < keyI l) : paidI its (opens its - 1) x = x.opn := by
  have h2 := okI_yes (List.all_eq_true.1 hok x hx)
  by_cases h0 : 0 < x.opn
  · have h1 := ahd_lt hok hx (hk h0)
    have h3 := ahd_all hok hl
    unfold paidI clampP; omega
  · unfold paidI clampP; omega
theorem last_paid {its : List Dq} (hok : its.all okI = true) {l : Dq} (hl : l ∈ its) (hlo : 0 < l.opn) (hu : ∀ x ∈ its, 0 < x.opn → x = l ∨ keyI x < keyI l) (hnd : (its.map keyI).Nodup) : paidI its (opens its - 1) l = l.opn - 1 := by
  have e : ahd its (keyI l) + l.opn = opens its := by
    clear hlo
    unfold ahd
    induction its with
    | nil => cases hl
    | cons y s ih =>
      simp only [List.all_cons, Bool.and_eq_true] at hok
      simp only [List.map_cons, List.nodup_cons] at hnd
      have e : ∀ l, opens (y :: l) = y.opn + opens l := fun l => by simp [opens]
      have hy := okI_yes hok.1
      by_cases hmem : l ∈ s
      · have h1 := ih hok.2 hmem (fun x hx => hu x (by simp [hx])) hnd.2
        rw [List.filter_cons, e]
        have hne : keyI y ≠ keyI l := fun e => hnd.1 (by rw [e]; exact List.mem_map_of_mem hmem)
        by_cases hp : 0 < y.opn
        · rcases hu y (by simp) hp with rfl | h
          · exact absurd rfl hne
          · rw [if_pos (by simpa using h), e]; omega
        · split
          · rw [e]; omega
          · omega
      · have hyl : y = l := by rcases List.mem_cons.1 hl with h | h
                               · exact h.symm
                               · exact absurd h hmem
        subst hyl
        rw [List.filter_cons_of_neg (by simp), e]
        have hs : ∀ t : List Dq, (∀ x ∈ t, x ∈ s) → opens (t.filter fun x => decide (keyI x < keyI y)) = opens t := by
          intro t
          induction t with
          | nil => intro _; simp
          | cons z t iht =>
            intro ht
            have ez : ∀ l, opens (z :: l) = z.opn + opens l := fun l => by simp [opens]
            have hz := okI_yes (List.all_eq_true.1 hok.2 z (ht z (by simp)))
            have h1 := iht (fun x hx => ht x (by simp [hx]))
            have hne : z ≠ y := fun e => hnd.1 (by rw [← e]; exact List.mem_map_of_mem (ht z (by simp)))
            rw [List.filter_cons, ez]
            by_cases hp : 0 < z.opn
            · rcases hu z (by simp [ht z (by simp)]) hp with h | h
              · exact absurd h hne
              · rw [if_pos (by simpa using h), ez, h1]
            · split
              · rw [ez, h1]
              · rw [h1]; omega
        rw [hs s (fun _ h => h)]; omega
  have h1 := ahd_nonneg hok (keyI l)
  have h2 := okI_yes (List.all_eq_true.1 hok l hl)
  unfold paidI clampP; omega
end Go.Proofs.YtbjjgnaojoaoiaaGreat
/- Items in memory; how one stands to another one. -/
namespace Go.Proofs.YtbjjgnaojoaoiaaGreat
open Go.RowKit Go
open Go.Sort (grow grow_empty grow_grow alloc_eq_grow heap_grow_old)
set_option linter.unusedVariables false
set_option linter.unusedSimpArgs false

@[reducible] def itV (x : Dq) : Value := .agg #[.int .i64 x.due, .int .i64 x.kind, .int .i64 x.per, .int .i64 x.opn]
def itC (x : Dq) : List Value := [.int .i64 x.due, .int .i64 x.kind, .int .i64 x.per, .int .i64 x.opn]
def itCs (its : List Dq) : List Value := its.flatMap itC
theorem itCs_len (qs : List Dq) : (itCs qs).length = qs.length * 4 := by
  unfold itCs
  induction qs with
  | nil => rfl
  | cons q qs ih => rw [List.flatMap_cons, List.length_append, ih]; simp [itC]; omega
theorem itCs_app (a b : List Dq) : itCs (a ++ b) = itCs a ++ itCs b := by simp [itCs]
theorem itCs_drop (qs : List Dq) (k : Nat) : (itCs qs).drop (k * 4) = itCs (qs.drop k) := by
  induction qs generalizing k with
  | nil => simp [itCs]
  | cons q qs ih =>
    cases k with
    | zero => simp [itCs]
    | succ k =>
      have h1 : itCs (q :: qs) = itC q ++ itCs qs := by simp [itCs]
      rw [List.drop_succ_cons, h1, ← ih k, List.drop_append]
      have : (itC q).length = 4 := rfl
      rw [this, show (k + 1) * 4 - 4 = k * 4 by omega, List.drop_of_length_le (by rw [this]; omega), List.nil_append]
theorem itCs_at (qs : List Dq) (k : Nat) (h : k < qs.length) : (itCs qs)[k * 4]? = some (.int .i64 qs[k].due) ∧ (itCs qs)[k * 4 + 1]? = some (.int .i64 qs[k].kind) ∧ (itCs qs)[k * 4 + 2]? = some (.int .i64 qs[k].per) ∧ (itCs qs)[k * 4 + 3]? = some (.int .i64 qs[k].opn) := by
  have h1 := itCs_drop qs k
  rw [List.drop_eq_getElem_cons h] at h1
  have h2 : ∀ j, (itCs qs)[k * 4 + j]? = (itCs (qs[k] :: qs.drop (k + 1)))[j]? := fun j => by rw [← h1, List.getElem?_drop]
  have h3 : itCs (qs[k] :: qs.drop (k + 1)) = itC qs[k] ++ itCs (qs.drop (k + 1)) := List.flatMap_cons
  rw [h3] at h2
  exact ⟨(h2 0).trans rfl, (h2 1).trans rfl, (h2 2).trans rfl, (h2 3).trans rfl⟩
theorem itCs_one (qs : List Dq) : ∀ u ∈ itCs qs, u.oneCell' = true := by
  intro u hu
  obtain ⟨q, _, hq⟩ := List.mem_flatMap.1 hu
  simp [itC] at hq
  rcases hq with rfl | rfl | rfl | rfl <;> rfl
theorem itCs_inj : ∀ {a b : List Dq}, itCs a = itCs b → a.length = b.length → a = b
  | [], [], _, _ => rfl
  | x :: a, y :: b, h, hl => by
    have h1 : itCs (x :: a) = itC x ++ itCs a := List.flatMap_cons
    have h2 : itCs (y :: b) = itC y ++ itCs b := List.flatMap_cons
    rw [h1, h2] at h
    obtain ⟨e1, e2⟩ := List.append_inj h rfl
    have := itCs_inj e2 (by simpa using hl)
    cases x; cases y; simp [itC] at e1
    obtain ⟨rfl, rfl, rfl, rfl⟩ := e1
    rw [this]

/-- A slice of items reads so. -/
abbrev ItR (w : World) (A : Option Addr) (its : List Dq) : Prop := Rd w w.heap.size 4 A its.length (itCs its)
theorem Rd.it {w : World} {B n : Nat} {A : Option Addr} {its : List Dq} (h : Rd w B 4 A n (itCs its)) {k : Nat} (hk : k < its.length) : ∃ b off, A = some ⟨b, off, none⟩ ∧ b < B ∧
    w.cell? ⟨b, off + k * 4, none⟩ = some (.int .i64 its[k].due) ∧ w.cell? ⟨b, off + k * 4 + 1, none⟩ = some (.int .i64 its[k].kind) ∧ w.cell? ⟨b, off + k * 4 + 2, none⟩ = some (.int .i64 its[k].per) ∧ w.cell? ⟨b, off + k * 4 + 3, none⟩ = some (.int .i64 its[k].opn) := by
  have hn : its.length * 4 = n * 4 := by rw [← itCs_len]; exact h.1
  obtain ⟨b, off, e, hb, hc⟩ := h.2 (by omega)
  obtain ⟨h0, h1, h2, h3⟩ := itCs_at its k hk
  refine ⟨b, off, e, hb, (hc _ (by omega)).trans h0, ?_, ?_, ?_⟩
  · have := hc (k * 4 + 1) (by omega); rw [← Nat.add_assoc] at this; exact this.trans h1
  · have := hc (k * 4 + 2) (by omega); rw [← Nat.add_assoc] at this; exact this.trans h2
  · have := hc (k * 4 + 3) (by omega); rw [← Nat.add_assoc] at this; exact this.trans h3
theorem Rd.it2 {w : World} {B n b off : Nat} {its : List Dq} (h : Rd w B 4 (some ⟨b, off, none⟩) n (itCs its)) {k : Nat} (hk : k < its.length) : 
    w.cell? ⟨b, off + k * 4, none⟩ = some (.int .i64 its[k].due) ∧ w.cell? ⟨b, off + k * 4 + 1, none⟩ = some (.int .i64 its[k].kind) ∧ w.cell? ⟨b, off + k * 4 + 2, none⟩ = some (.int .i64 its[k].per) ∧ w.cell? ⟨b, off + k * 4 + 3, none⟩ = some (.int .i64 its[k].opn) := by
  obtain ⟨b', off', e, _, hc⟩ := h.it hk
  injection e with e; injection e with e1 e2; subst e1 e2; exact hc
theorem Rd.num {w : World} {B n : Nat} {A : Option Addr} {d : List Int} (h : Rd w B 1 A n (ints d)) {k : Nat} (hk : k < d.length) : ∃ b off, A = some ⟨b, off, none⟩ ∧ b < B ∧ w.cell? ⟨b, off + k, none⟩ = some (.int .i64 d[k]) := by
  have hn : d.length = n * 1 := by rw [← ints_len]; exact h.1
  obtain ⟨b, off, e, hb, hc⟩ := h.2 (by omega)
  exact ⟨b, off, e, hb, (hc k (by omega)).trans (ints_at d k hk)⟩
theorem Rd.num2 {w : World} {B n b off : Nat} {d : List Int} (h : Rd w B 1 (some ⟨b, off, none⟩) n (ints d)) {k : Nat} (hk : k < d.length) : w.cell? ⟨b, off + k, none⟩ = some (.int .i64 d[k]) := by
  obtain ⟨b', off', e, _, hc⟩ := h.num hk
  injection e with e; injection e with e1 e2; subst e1 e2; exact hc

/-- Blocks were laid, draws were drawn; nothing else. -/
def Lays (w w' : World) : Prop := ∃ q os, w' = grow (w.drewN q) os
theorem Lays.refl (w : World) : Lays w w := ⟨0, #[], by rw [grow_empty]; rfl⟩
theorem Lays.drew {w w' : World} (h : Lays w w') : Lays w w'.drew := by
  obtain ⟨q, os, rfl⟩ := h
  exact ⟨q + 1, os, rfl⟩
theorem Lays.alloc {w w' : World} (h : Lays w w') (o : Obj) : Lays w (w'.alloc o) := by
  obtain ⟨q, os, rfl⟩ := h
  exact ⟨q, os ++ #[o], by rw [alloc_eq_grow, grow_grow]⟩
theorem Lays.trans {w w' w'' : World} (h : Lays w w') (k : Lays w' w'') : Lays w w'' := by
  obtain ⟨q, os, rfl⟩ := h
  obtain ⟨q', os', rfl⟩ := k
  refine ⟨q + q', os ++ os', ?_⟩
  rw [← grow_grow]
  unfold grow World.drewN
  simp [Nat.add_assoc]
theorem Lays.below {w w' : World} (h : Lays w w') : Below w.heap.size w w' := by
  obtain ⟨q, os, rfl⟩ := h
  refine ⟨rfl, rfl, rfl, by simp [grow], fun b hb => ?_⟩
  exact heap_grow_old (w.drewN q) os hb

def or3 (x y z : Int) : Int := if x = 0 then (if y = 0 then z else y) else x
theorem or3_blk (g t : Nat) (x y z : Int) (w : World) (h : w.heap[g]? = some (.cells #[.int .i64 x, .int .i64 y, .int .i64 z] t (0, 0))) :
    Calls Tryz.prog 146 #[.slice (some ⟨g, 0, none⟩) 3 3] w fun e w' => e = .returned (.int .i64 (or3 x y z)) ∧ w' = w := by
  have c0 : w.cell? ⟨g, 0, none⟩ = some (.int .i64 x) := by simp [World.cell?, h]
  have c1 : w.cell? ⟨g, 1, none⟩ = some (.int .i64 y) := by simp [World.cell?, h]
  have c2 : w.cell? ⟨g, 2, none⟩ = some (.int .i64 z) := by simp [World.cell?, h]
  clear h
  by_cases hx : x = 0
  · subst hx
    by_cases hy : y = 0
    · subst hy
      by_cases hz : z = 0
      · subst hz
        go_enter Tryz.func146, Tryz.ntmps146
        go_wp2_with fail
        refine wp_loop_rounds 4 ?_
        rw [rounds_succ]; go_wp2_with fail
        rw [rounds_succ]; go_wp2_with fail
        rw [rounds_succ]; go_wp2_with fail
        rw [rounds_succ]; go_wp2_with fail
        all_goals go_ret
        all_goals exact ⟨rfl, rfl⟩
      · have hz' : (z != 0) = true := by simpa using hz
        go_enter Tryz.func146, Tryz.ntmps146
        go_wp2_with fail
        refine wp_loop_rounds 4 ?_
        rw [rounds_succ]; go_wp2_with fail
        rw [rounds_succ]; go_wp2_with fail
        rw [rounds_succ]; go_wp2_with fail
        all_goals go_ret
        all_goals exact ⟨rfl, rfl⟩
    · have hy' : (y != 0) = true := by simpa using hy
      have e : or3 0 y z = y := by unfold or3; rw [if_pos rfl, if_neg hy]
      have E := Lib.hid e; clear e
      go_enter Tryz.func146, Tryz.ntmps146
      go_wp2_with fail
      refine wp_loop_rounds 4 ?_
      rw [rounds_succ]; go_wp2_with fail
      rw [rounds_succ]; go_wp2_with fail
      all_goals go_ret
      all_goals exact ⟨by rw [E.out]; rfl, rfl⟩
  · have hx' : (x != 0) = true := by simpa using hx
    have e : or3 x y z = x := by unfold or3; rw [if_neg hx]
    have E := Lib.hid e; clear e
    go_enter Tryz.func146, Tryz.ntmps146
    go_wp2_with fail
    refine wp_loop_rounds 4 ?_
    rw [rounds_succ]; go_wp2_with fail
    all_goals go_ret
    all_goals exact ⟨by rw [E.out]; rfl, rfl⟩

theorem cI_lt {x y : Int} (h : x < y) : Lib.compareInt x y = -1 := by unfold Lib.compareInt; rw [if_pos h]
theorem cI_gt {x y : Int} (h : y < x) : Lib.compareInt x y = 1 := by unfold Lib.compareInt; rw [if_neg (by omega), if_pos h]
theorem cI_eq {x y : Int} (h1 : ¬ x < y) (h2 : ¬ y < x) : Lib.compareInt x y = 0 := by unfold Lib.compareInt; rw [if_neg h1, if_neg (by omega)]
theorem cInt (x y : Int) (w : World) : Calls Tryz.prog 147 #[.int .i64 x, .int .i64 y] w fun e w' => e = .returned (.int .i64 (Lib.compareInt x y)) ∧ w' = w := by
  by_cases h1 : x < y
  · rw [cI_lt h1]
    go_enter Tryz.func147, Tryz.ntmps147
    go_wp2
    go_ret
    exact ⟨rfl, rfl⟩
  · by_cases h2 : y < x
    · rw [cI_gt h2]
      go_enter Tryz.func147, Tryz.ntmps147
      go_wp2
      go_ret
      exact ⟨rfl, rfl⟩
    · rw [cI_eq h1 h2]
      go_enter Tryz.func147, Tryz.ntmps147
      go_wp2
      go_ret
      exact ⟨rfl, rfl⟩

/-- How an item stands to another one. -/
def ordI (a b : Dq) : Int := or3 (Lib.compareInt a.due b.due) (Lib.compareInt a.kind b.kind) (Lib.compareInt a.per b.per)
theorem cI_cases (x y : Int) : (x < y ∧ Lib.compareInt x y = -1) ∨ (y < x ∧ Lib.compareInt x y = 1) ∨ (x = y ∧ Lib.compareInt x y = 0) := by
  rcases Int.lt_trichotomy x y with h | h | h
  · exact .inl ⟨h, cI_lt h⟩
  · exact .inr (.inr ⟨h, cI_eq (by omega) (by omega)⟩)
  · exact .inr (.inl ⟨h, cI_gt h⟩)
theorem or3_0 (y z : Int) : or3 0 y z = if y = 0 then z else y := rfl
theorem or3_1 {x : Int} (h : ¬ x = 0) (y z : Int) : or3 x y z = x := if_neg h
theorem ordI_neg {a b : Dq} : ordI a b < 0 ↔ aheadI a b = true := by
  unfold ordI aheadI
  rcases cI_cases a.due b.due with ⟨h1, e1⟩ | ⟨h1, e1⟩ | ⟨h1, e1⟩
  · rw [e1, or3_1 (by decide), if_pos (by omega), decide_eq_true_eq]; omega
  · rw [e1, or3_1 (by decide), if_pos (by omega), decide_eq_true_eq]; omega
  · rw [e1, or3_0, if_neg (c := a.due ≠ b.due) (by omega)]
    rcases cI_cases a.kind b.kind with ⟨h2, e2⟩ | ⟨h2, e2⟩ | ⟨h2, e2⟩
    · rw [e2, if_neg (by decide), if_pos (by omega), decide_eq_true_eq]; omega
    · rw [e2, if_neg (by decide), if_pos (by omega), decide_eq_true_eq]; omega
    · rw [e2, if_pos rfl, if_neg (by omega), decide_eq_true_eq]
      rcases cI_cases a.per b.per with ⟨h3, e3⟩ | ⟨h3, e3⟩ | ⟨h3, e3⟩ <;> rw [e3] <;> omega
theorem ordI_key {a b : Dq} (ha : okI a = true) (hb : okI b = true) : ordI a b < 0 ↔ keyI a < keyI b := by
  rw [ordI_neg, aheadI_key ha hb, decide_eq_true_eq]
theorem ordI_zero {a b : Dq} : ordI a b = 0 ↔ (a.due = b.due ∧ a.kind = b.kind ∧ a.per = b.per) := by
  unfold ordI or3
  rcases cI_cases a.due b.due with ⟨h1, e1⟩ | ⟨h1, e1⟩ | ⟨h1, e1⟩
  · rw [e1, if_neg (by decide)]; constructor <;> intro h <;> omega
  · rw [e1, if_neg (by decide)]; constructor <;> intro h <;> omega
  · rw [e1, if_pos rfl]
    rcases cI_cases a.kind b.kind with ⟨h2, e2⟩ | ⟨h2, e2⟩ | ⟨h2, e2⟩
    · rw [e2, if_neg (by decide)]; constructor <;> intro h <;> omega
    · rw [e2, if_neg (by decide)]; constructor <;> intro h <;> omega
    · rw [e2, if_pos rfl]
      rcases cI_cases a.per b.per with ⟨h3, e3⟩ | ⟨h3, e3⟩ | ⟨h3, e3⟩ <;> rw [e3] <;> constructor <;> intro h <;> omega
theorem ordI_zero_key {a b : Dq} (ha : okI a = true) (hb : okI b = true) : ordI a b = 0 ↔ keyI a = keyI b := by
  rw [ordI_zero]
  have := okI_yes ha; have := okI_yes hb
  unfold keyI
  constructor
  · rintro ⟨h1, h2, h3⟩; rw [h1, h2, h3]
  · intro h; omega

set_option maxHeartbeats 1600000 in
set_option maxRecDepth 100000 in
theorem order_any (a b : Dq) (w : World) : Calls Tryz.prog 103 #[itV a, itV b] w fun e w' => e = .returned (.int .i64 (ordI a b)) ∧ Lays w w' := by
  have f1 : ((w.alloc (.cells #[.int .i64 a.due, .int .i64 a.kind, .int .i64 a.per, .int .i64 a.opn] 58)).alloc (.cells #[.int .i64 b.due, .int .i64 b.kind, .int .i64 b.per, .int .i64 b.opn] 58)).heap[w.heap.size]? = some (.cells #[.int .i64 a.due, .int .i64 a.kind, .int .i64 a.per, .int .i64 a.opn] 58 (0, 0)) := blk_alloc (blk_new w _ rfl) _
  have f2 : ((w.alloc (.cells #[.int .i64 a.due, .int .i64 a.kind, .int .i64 a.per, .int .i64 a.opn] 58)).alloc (.cells #[.int .i64 b.due, .int .i64 b.kind, .int .i64 b.per, .int .i64 b.opn] 58)).heap[w.heap.size + 1]? = some (.cells #[.int .i64 b.due, .int .i64 b.kind, .int .i64 b.per, .int .i64 b.opn] 58 (0, 0)) := blk_new _ _ (by simp)
  have HL := Lib.hid (((Lays.refl w).alloc (.cells #[.int .i64 a.due, .int .i64 a.kind, .int .i64 a.per, .int .i64 a.opn] 58)).alloc (.cells #[.int .i64 b.due, .int .i64 b.kind, .int .i64 b.per, .int .i64 b.opn] 58))
  have HO : Hid (ordI a b = or3 (Lib.compareInt a.due b.due) (Lib.compareInt a.kind b.kind) (Lib.compareInt a.per b.per)) := Lib.hid rfl
  go_enter Tryz.func103, Tryz.ntmps103
  go_wp2_with fail
  generalize (w.alloc (.cells #[.int .i64 a.due, .int .i64 a.kind, .int .i64 a.per, .int .i64 a.opn] 58)).alloc (.cells #[.int .i64 b.due, .int .i64 b.kind, .int .i64 b.per, .int .i64 b.opn] 58) = W at *
  have c0 : W.cell? ⟨w.heap.size, 0, none⟩ = some (.int .i64 a.due) := blk_cell f1 0
  have c1 : W.cell? ⟨w.heap.size, 1, none⟩ = some (.int .i64 a.kind) := blk_cell f1 1
  have c2 : W.cell? ⟨w.heap.size, 2, none⟩ = some (.int .i64 a.per) := blk_cell f1 2
  have d0 : W.cell? ⟨w.heap.size + 1, 0, none⟩ = some (.int .i64 b.due) := blk_cell f2 0
  have d1 : W.cell? ⟨w.heap.size + 1, 1, none⟩ = some (.int .i64 b.kind) := blk_cell f2 1
  have d2 : W.cell? ⟨w.heap.size + 1, 2, none⟩ = some (.int .i64 b.per) := blk_cell f2 2
  have z2 : w.heap.size + 1 < W.heap.size := blk_lt f2
  have z1 : w.heap.size < W.heap.size := by omega
  clear f1 f2
  obtain ⟨x1, h1⟩ : ∃ x, Lib.compareInt a.due b.due = x := ⟨_, rfl⟩
  obtain ⟨x2, h2⟩ : ∃ x, Lib.compareInt a.kind b.kind = x := ⟨_, rfl⟩
  obtain ⟨x3, h3⟩ : ∃ x, Lib.compareInt a.per b.per = x := ⟨_, rfl⟩
  rw [h1, h2, h3] at HO
  have H1 : Hid (∀ w, Calls Tryz.prog 147 #[.int .i64 a.due, .int .i64 b.due] w fun e w' => e = .returned (.int .i64 x1) ∧ w' = w) := Lib.hid (fun w => h1 ▸ cInt a.due b.due w)
  have H2 : Hid (∀ w, Calls Tryz.prog 147 #[.int .i64 a.kind, .int .i64 b.kind] w fun e w' => e = .returned (.int .i64 x2) ∧ w' = w) := Lib.hid (fun w => h2 ▸ cInt a.kind b.kind w)
  have H3 : Hid (∀ w, Calls Tryz.prog 147 #[.int .i64 a.per, .int .i64 b.per] w fun e w' => e = .returned (.int .i64 x3) ∧ w' = w) := Lib.hid (fun w => h3 ▸ cInt a.per b.per w)
  clear h1 h2 h3
  generalize a.due = a0 at *
  generalize a.kind = a1 at *
  generalize a.per = a2 at *
  generalize b.due = b0 at *
  generalize b.kind = b1 at *
  generalize b.per = b2 at *
  go_region_held3 (fun w' => w'.cell? ⟨w.heap.size, 0, none⟩ = some (.int .i64 a0) ∧ w'.cell? ⟨w.heap.size, 1, none⟩ = some (.int .i64 a1) ∧ w'.cell? ⟨w.heap.size, 2, none⟩ = some (.int .i64 a2) ∧ w'.cell? ⟨w.heap.size + 1, 0, none⟩ = some (.int .i64 b0) ∧ w'.cell? ⟨w.heap.size + 1, 1, none⟩ = some (.int .i64 b1) ∧ w'.cell? ⟨w.heap.size + 1, 2, none⟩ = some (.int .i64 b2))
    ((first | (with_reducible exact ⟨c0, c1, c2, d0, d1, d2⟩) | exact ⟨c0, c1, c2, d0, d1, d2⟩ | exact ⟨(World.cell?_alloc_lt _ _ _ (by simpa using z1)).trans c0, (World.cell?_alloc_lt _ _ _ (by simpa using z1)).trans c1, (World.cell?_alloc_lt _ _ _ (by simpa using z1)).trans c2, (World.cell?_alloc_lt _ _ _ (by simpa using z2)).trans d0, (World.cell?_alloc_lt _ _ _ (by simpa using z2)).trans d1, (World.cell?_alloc_lt _ _ _ (by simpa using z2)).trans d2⟩))
    ((first
      | (go_at_call 147; first | ((with_reducible refine (H1.out _).mono ?_); rintro e w' ⟨rfl, rfl⟩) | ((with_reducible refine (H2.out _).mono ?_); rintro e w' ⟨rfl, rfl⟩) | ((with_reducible refine (H3.out _).mono ?_); rintro e w' ⟨rfl, rfl⟩))
      | (go_at_call 146; refine (or3_blk W.heap.size 3 x1 x2 x3 (W.alloc (.cells #[.int .i64 x1, .int .i64 x2, .int .i64 x3] 3)).drew (blk_new W (.cells #[.int .i64 x1, .int .i64 x2, .int .i64 x3] 3) rfl)).mono ?_; rintro e w' ⟨rfl, rfl⟩)))
  all_goals go_wp2_with fail
  all_goals go_ret
  all_goals exact ⟨by rw [HO.out]; rfl, (HL.out.alloc _).drew⟩
end Go.Proofs.YtbjjgnaojoaoiaaGreat
