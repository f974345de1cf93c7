/- Splitting an amount, in plain words: the quotients, what is left, who gets one more. -/
import Derived.Test.YtjimahagfkpacaaSS2
namespace Go.Proofs.Ytjimahagfkpacaa
set_option linter.unusedVariables false
set_option linter.unusedSimpArgs false

def quoS (a T : Int) (ws : List Int) : List Int := ws.map fun w => a * w / T
def rstS (a T : Int) (ws : List Int) : List Int := ws.map fun w => a * w % T
theorem quoS_len (a T : Int) (ws : List Int) : (quoS a T ws).length = ws.length := by simp [quoS]
theorem rstS_len (a T : Int) (ws : List Int) : (rstS a T ws).length = ws.length := by simp [rstS]
def topS (q d : List Int) (k : Nat) : List Int := q.mapIdx fun i x => if (i : Int) ∈ d.take k then x + 1 else x
def markS (r d : List Int) (k : Nat) : List Int := r.mapIdx fun i x => if (i : Int) ∈ d.take k then -1 else x
theorem topS_len (q d : List Int) (k : Nat) : (topS q d k).length = q.length := by simp [topS]
theorem markS_len (r d : List Int) (k : Nat) : (markS r d k).length = r.length := by simp [markS]
theorem topS_zero (q d : List Int) : topS q d 0 = q := by
  apply List.ext_getElem (by simp [topS])
  intro i h1 h2; simp [topS]
theorem markS_zero (q d : List Int) : markS q d 0 = q := by
  apply List.ext_getElem (by simp [markS])
  intro i h1 h2; simp [markS]
theorem mem_take_succ {d : List Int} {k : Nat} (h : k < d.length) (x : Int) : x ∈ d.take (k + 1) ↔ x ∈ d.take k ∨ x = d[k] := by
  rw [List.take_succ_eq_append_getElem h, List.mem_append, List.mem_singleton]
theorem nodup_take {d : List Int} (hn : d.Nodup) {k : Nat} (h : k < d.length) : d[k] ∉ d.take k := by
  intro hm
  obtain ⟨j, hj, e⟩ := List.mem_iff_getElem.1 hm
  rw [List.getElem_take] at e
  have hj' : j < k := by simp at hj; omega
  exact List.pairwise_iff_getElem.1 hn j k (by omega) h hj' e
theorem topS_step {q d : List Int} (hn : d.Nodup) {k j : Nat} (h : k < d.length) (hj : d[k] = (j : Int)) (hjq : j < q.length) :
    topS q d (k + 1) = (topS q d k).set j ((topS q d k)[j]'(by rw [topS_len]; exact hjq) + 1) := by
  have hno := nodup_take hn h
  apply List.ext_getElem (by simp [topS])
  intro i h1 h2
  rw [List.getElem_set]
  simp only [topS, List.getElem_mapIdx, mem_take_succ h, hj]
  rw [hj] at hno
  by_cases e : j = i
  · subst e; simp [hno]
  · have : ¬ ((i : Int) = (j : Int)) := by omega
    simp [e, this]
theorem markS_step {q d : List Int} {k j : Nat} (h : k < d.length) (hj : d[k] = (j : Int)) (hjq : j < q.length) :
    markS q d (k + 1) = (markS q d k).set j (-1) := by
  apply List.ext_getElem (by simp [markS])
  intro i h1 h2
  rw [List.getElem_set]
  simp only [markS, List.getElem_mapIdx, mem_take_succ h, hj]
  by_cases e : j = i
  · subst e; simp
  · have : ¬ ((i : Int) = (j : Int)) := by omega
    simp [e, this]
theorem sum_set (l : List Int) (j : Nat) (h : j < l.length) (v : Int) : (l.set j v).sum = l.sum - l[j] + v := by
  induction l generalizing j with
  | nil => simp at h
  | cons x l ih =>
    cases j with
    | zero => simp; omega
    | succ j => simp only [List.set_cons_succ, List.sum_cons, List.getElem_cons_succ]; rw [ih j (by simpa using h)]; omega
/-- d names each of n places once. -/
def Pl (n : Nat) (d : List Int) : Prop := d.Perm ((List.range n).map fun (i : Nat) => (i : Int))
theorem Pl.len {n : Nat} {d : List Int} (h : Pl n d) : d.length = n := by have := h.length_eq; simpa using this
theorem Pl.nodup {n : Nat} {d : List Int} (h : Pl n d) : d.Nodup := by
  refine h.nodup_iff.2 ?_
  refine List.pairwise_iff_getElem.2 fun i j hi hj hij => ?_
  simp; omega
theorem Pl.at {n : Nat} {d : List Int} (h : Pl n d) {k : Nat} (hk : k < d.length) : ∃ j : Nat, d[k] = (j : Int) ∧ j < n := by
  have := h.mem_iff.1 (List.getElem_mem hk)
  obtain ⟨j, hj, e⟩ := List.mem_map.1 this
  exact ⟨j, e.symm, by simpa using hj⟩
theorem Pl.all {n : Nat} {d : List Int} (h : Pl n d) {j : Nat} (hj : j < n) : ∃ k, ∃ hk : k < d.length, d[k] = (j : Int) := by
  have : (j : Int) ∈ d := h.mem_iff.2 (List.mem_map.2 ⟨j, by simpa using hj, rfl⟩)
  exact List.mem_iff_getElem.1 this
theorem topS_sum {n : Nat} {q d : List Int} (h : Pl n d) (hq : q.length = n) : ∀ k, k ≤ n → (topS q d k).sum = q.sum + k
  | 0, _ => by rw [topS_zero]; simp
  | k + 1, hk => by
    have hl := h.len
    obtain ⟨j, e, hj⟩ := h.at (k := k) (by omega)
    rw [topS_step h.nodup (by omega) e (by omega), sum_set, topS_sum h hq k (by omega)]
    · omega
    · rw [topS_len]; omega
theorem sums {a T : Int} : ∀ ws : List Int, T * (quoS a T ws).sum + (rstS a T ws).sum = a * ws.sum
  | [] => by simp [quoS, rstS]
  | w :: ws => by
    have ih := sums (a := a) (T := T) ws
    have := Int.mul_ediv_add_emod (a * w) T
    simp only [quoS, rstS, List.map_cons, List.sum_cons] at ih ⊢
    rw [Int.mul_add, Int.mul_add]; omega
theorem sum_nonneg : ∀ {l : List Int}, (∀ x ∈ l, 0 ≤ x) → 0 ≤ l.sum
  | [], _ => by simp
  | x :: l, h => by have := sum_nonneg (l := l) (fun y hy => h y (by simp [hy])); have := h x (by simp); simp only [List.sum_cons]; omega
theorem sum_bound {T : Int} : ∀ {l : List Int}, (∀ x ∈ l, x ≤ T) → l.sum ≤ T * l.length
  | [], _ => by simp
  | x :: l, h => by
    have := sum_bound (l := l) (fun y hy => h y (by simp [hy])); have := h x (by simp)
    simp only [List.sum_cons, List.length_cons]
    have : T * ((l.length + 1 : Nat) : Int) = T * l.length + T := by rw [Int.natCast_add, Int.mul_add]; simp
    omega
/-- What is left, over T, of a less all quotients: no more than there are places. -/
theorem left_ex {a T : Int} {ws : List Int} (hT : 0 < T) (hs : ws.sum = T) (hn : 1 ≤ ws.length) : ∃ k : Nat, a - (quoS a T ws).sum = k ∧ k < ws.length := by
  have h1 := sums (a := a) (T := T) ws
  have h2 : 0 ≤ (rstS a T ws).sum := sum_nonneg (fun x hx => by obtain ⟨w, _, rfl⟩ := List.mem_map.1 hx; exact Int.emod_nonneg _ (by omega))
  have h3 : (rstS a T ws).sum ≤ (T - 1) * ((rstS a T ws).length : Int) := sum_bound (fun x hx => by obtain ⟨w, _, rfl⟩ := List.mem_map.1 hx; have := Int.emod_lt_of_pos (a * w) hT; omega)
  rw [rstS_len] at h3
  rw [hs] at h1
  have e : T * (a - (quoS a T ws).sum) = (rstS a T ws).sum := by rw [Int.mul_sub, Int.mul_comm T a]; omega
  have e0 : 0 ≤ a - (quoS a T ws).sum := by
    rcases Int.lt_or_le (a - (quoS a T ws).sum) 0 with h | h
    · have := Int.mul_neg_of_pos_of_neg hT h; omega
    · exact h
  have e1 : a - (quoS a T ws).sum < ws.length := by
    rcases Int.lt_or_le (a - (quoS a T ws).sum) ws.length with h | h
    · exact h
    · have h4 := Int.mul_le_mul_of_nonneg_left h (Int.le_of_lt hT)
      rw [e] at h4
      have h5 : (T - 1) * (ws.length : Int) = T * ws.length - ws.length := by rw [Int.sub_mul]; omega
      omega
  exact ⟨(a - (quoS a T ws).sum).toNat, by omega, by omega⟩
theorem prefix_sum {a T : Int} {ws : List Int} (hT : 0 < T) (hw : ∀ w ∈ ws, 0 ≤ w) (hs : ws.sum = T) (ha : -4611686018427387904 ≤ a ∧ a ≤ 4611686018427387904) (hn : ws.length ≤ 1000) (k : Nat) :
    -4611686018427389000 ≤ (quoS a T (ws.take k)).sum ∧ (quoS a T (ws.take k)).sum ≤ 4611686018427387904 := by
  have h1 := sums (a := a) (T := T) (ws.take k)
  have h2 : 0 ≤ (rstS a T (ws.take k)).sum := sum_nonneg (fun x hx => by obtain ⟨w, _, rfl⟩ := List.mem_map.1 hx; exact Int.emod_nonneg _ (by omega))
  have h3 : (rstS a T (ws.take k)).sum ≤ T * ((rstS a T (ws.take k)).length : Int) := sum_bound (fun x hx => by obtain ⟨w, _, rfl⟩ := List.mem_map.1 hx; have := Int.emod_lt_of_pos (a * w) hT; omega)
  have h4 : 0 ≤ (ws.take k).sum := sum_nonneg (fun x hx => hw x (List.mem_of_mem_take hx))
  have h5 : 0 ≤ (ws.drop k).sum := sum_nonneg (fun x hx => hw x (List.mem_of_mem_drop hx))
  have h6 : (ws.take k).sum + (ws.drop k).sum = T := by rw [← List.sum_append, List.take_append_drop, hs]
  have h7 : (rstS a T (ws.take k)).length ≤ 1000 := by rw [rstS_len, List.length_take]; omega
  generalize (quoS a T (ws.take k)).sum = Q at *
  generalize (rstS a T (ws.take k)).sum = R at *
  generalize (rstS a T (ws.take k)).length = n at *
  generalize (ws.take k).sum = S at *
  have h8 : T * (n : Int) ≤ T * 1000 := Int.mul_le_mul_of_nonneg_left (by omega) (by omega)
  constructor
  · rcases Int.lt_or_le Q (-4611686018427389000) with h | h
    · have : T * Q ≤ T * (-4611686018427389001) := Int.mul_le_mul_of_nonneg_left (by omega) (by omega)
      have e1 : -4611686018427387904 * S ≤ a * S := Int.mul_le_mul_of_nonneg_right ha.1 h4
      omega
    · exact h
  · rcases Int.lt_or_le 4611686018427387904 Q with h | h
    · have : T * 4611686018427387905 ≤ T * Q := Int.mul_le_mul_of_nonneg_left (by omega) (by omega)
      have e1 : a * S ≤ 4611686018427387904 * S := Int.mul_le_mul_of_nonneg_right ha.2 h4
      omega
    · exact h
theorem quo_bound {a T w : Int} (hT : 0 < T) (hw : 0 ≤ w) (hwT : w ≤ T) (ha : -4611686018427387904 ≤ a ∧ a ≤ 4611686018427387904) : -4611686018427387904 ≤ a * w / T ∧ a * w / T ≤ 4611686018427387904 := by
  have h1 : -4611686018427387904 * w ≤ a * w := Int.mul_le_mul_of_nonneg_right ha.1 hw
  have h2 : a * w ≤ 4611686018427387904 * w := Int.mul_le_mul_of_nonneg_right ha.2 hw
  constructor
  · rw [Int.le_ediv_iff_mul_le hT]; omega
  · have : a * w / T < 4611686018427387905 := by rw [Int.ediv_lt_iff_lt_mul hT]; omega
    omega
theorem le_sum {ws : List Int} (hw : ∀ w ∈ ws, 0 ≤ w) {w : Int} (h : w ∈ ws) : w ≤ ws.sum := by
  induction ws with
  | nil => cases h
  | cons x l ih =>
    have h0 : 0 ≤ l.sum := sum_nonneg (fun y hy => hw y (by simp [hy]))
    have hx := hw x (by simp)
    simp only [List.sum_cons]
    rcases List.mem_cons.1 h with rfl | h
    · omega
    · have := ih (fun y hy => hw y (by simp [hy])) h; omega

/-- The first one by the order among those of i places that are not marked; -1: all are. -/
def Best (r d : List Int) (k i : Nat) (b : Int) : Prop :=
  (b = -1 ∧ ∀ p : Nat, p < i → (p : Int) ∈ d.take k) ∨ (∃ j : Nat, b = j ∧ j < i ∧ (j : Int) ∉ d.take k ∧ ∀ p : Nat, p < i → p ≠ j → (p : Int) ∉ d.take k → gt r p < gt r j ∨ (gt r p = gt r j ∧ j < p))
theorem Best.start (r d : List Int) (k : Nat) : Best r d k 0 (-1) := .inl ⟨rfl, fun p hp => by omega⟩
theorem Best.marked {r d : List Int} {k i : Nat} {b : Int} (h : Best r d k i b) (hm : (i : Int) ∈ d.take k) : Best r d k (i + 1) b := by
  rcases h with ⟨rfl, h⟩ | ⟨j, rfl, h1, h2, h3⟩
  · exact .inl ⟨rfl, fun p hp => by by_cases e : p = i; · subst e; exact hm
                                    · exact h p (by omega)⟩
  · exact .inr ⟨j, rfl, by omega, h2, fun p hp hne hu => by
      by_cases e : p = i
      · subst e; exact absurd hm hu
      · exact h3 p (by omega) hne hu⟩
theorem Best.fresh {r d : List Int} {k i : Nat} {b : Int} (h : Best r d k i b) (hm : (i : Int) ∉ d.take k) (hb : b < 0 ∨ gt r b.toNat < gt r i) : Best r d k (i + 1) i := by
  rcases h with ⟨rfl, h⟩ | ⟨j, rfl, h1, h2, h3⟩
  · exact .inr ⟨i, rfl, by omega, hm, fun p hp hne hu => absurd (h p (by omega)) hu⟩
  · refine .inr ⟨i, rfl, by omega, hm, fun p hp hne hu => ?_⟩
    have hb' : gt r j < gt r i := by rcases hb with h | h; · omega
                                     · simpa using h
    by_cases e : p = j
    · subst e; exact .inl hb'
    · have := h3 p (by omega) e hu; omega
theorem Best.stays {r d : List Int} {k i : Nat} {b : Int} (h : Best r d k i b) (h0 : 0 ≤ b) (hb : ¬ gt r b.toNat < gt r i) : Best r d k (i + 1) b := by
  rcases h with ⟨rfl, h⟩ | ⟨j, rfl, h1, h2, h3⟩
  · omega
  · refine .inr ⟨j, rfl, by omega, h2, fun p hp hne hu => ?_⟩
    by_cases e : p = i
    · subst e; rw [Int.toNat_natCast] at hb; omega
    · exact h3 p (by omega) hne hu
theorem Best.is {r d : List Int} {n k : Nat} {b : Int} (h : Best r d k n b) (hp : Pl n d) (hs : Srt (fun x => gt r x.toNat) 0 n d) (hk : k < n) : b = gt d k := by
  have hl := hp.len
  have hno := nodup_take hp.nodup (k := k) (by omega)
  obtain ⟨j0, e0, hj0⟩ := hp.at (k := k) (by omega)
  rw [e0] at hno
  rw [gt_eq d k (by omega), e0]
  rcases h with ⟨rfl, h⟩ | ⟨j, rfl, h1, h2, h3⟩
  · exact absurd (h j0 hj0) hno
  · by_cases e : j = j0
    · rw [e]
    · have h4 := h3 j0 hj0 (by omega) hno
      obtain ⟨t, ht, et⟩ := hp.all h1
      have htk : k < t := by
        rcases Nat.lt_trichotomy t k with h | h | h
        · exact absurd (List.mem_iff_getElem.2 ⟨t, by simp; omega, by rw [List.getElem_take]; exact et⟩) h2
        · subst h; rw [e0] at et; omega
        · exact h
      have h5 := hs k t (by omega) htk (by omega)
      rw [gt_eq d k (by omega), gt_eq d t ht, e0, et] at h5
      unfold Rk at h5
      simp only [Int.toNat_natCast] at h5
      omega
end Go.Proofs.Ytjimahagfkpacaa
