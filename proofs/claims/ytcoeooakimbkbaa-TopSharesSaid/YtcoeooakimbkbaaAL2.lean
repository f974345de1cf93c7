/- What comes of paying items in order. -/
import Derived.Test.YtcoeooakimbkbaaAL
namespace Go.Proofs.Ytcoeooakimbkbaa
set_option linter.unusedVariables false
set_option linter.unusedSimpArgs false

theorem placesE_ok {its : List Dq} (h : placesE its = 0) : its.length ≤ 200 ∧ its.all okI = true ∧ (its.map keyI).Nodup := by
  unfold placesE at h
  by_cases h1 : its.length ≤ 200 ∧ its.all okI = true
  · rw [if_pos h1] at h
    by_cases h2 : (its.map keyI).Nodup
    · exact ⟨h1.1, h1.2, h2⟩
    · rw [if_neg h2] at h; omega
  · rw [if_neg h1] at h; omega
theorem placesE_cases (its : List Dq) : placesE its = 0 ∨ placesE its = 1 ∨ placesE its = 5 := by
  unfold placesE; split
  · split <;> simp
  · simp
/-- Sorted, and no two neighbours of one key: rising. -/
theorem rise_of' {s : List Dq} (hs : s.Pairwise fun a b => ¬ keyI b < keyI a) (hn : ∀ k (h : k + 1 < s.length), keyI (s[k]) ≠ keyI (s[k + 1])) : s.Pairwise fun a b => keyI a < keyI b := by
  rw [List.pairwise_iff_getElem] at hs ⊢
  intro i j hi hj hij
  have h1 := hn i (by omega)
  have h2 := hs i (i + 1) hi (by omega) (by omega)
  by_cases e : i + 1 = j
  · subst e; omega
  · have h3 := hs (i + 1) j (by omega) hj (by omega); omega
theorem rise_of {its : List Dq} {d : List Int} (hs : (inOrd its d).Pairwise fun a b => ¬ keyI b < keyI a) (hn : ∀ k (h : k + 1 < (inOrd its d).length), keyI ((inOrd its d)[k]) ≠ keyI ((inOrd its d)[k + 1])) : Rise its d := rise_of' hs hn
theorem rise_nodup {its : List Dq} {d : List Int} (h : Pl its.length d) (hr : Rise its d) : (its.map keyI).Nodup := by
  have h1 : ((inOrd its d).map keyI).Nodup := by
    refine List.pairwise_map.2 (hr.imp ?_)
    intro a b hab; omega
  exact ((inOrd_perm h).map keyI).nodup_iff.1 h1
theorem not_nodup {its : List Dq} {d : List Int} (h : Pl its.length d) {k : Nat} (hk : k + 1 < (inOrd its d).length) (e : keyI ((inOrd its d)[k]) = keyI ((inOrd its d)[k + 1])) : ¬ (its.map keyI).Nodup := fun hn => by
  have h1 := ((inOrd_perm h).map keyI).nodup_iff.2 hn
  have := List.pairwise_iff_getElem.1 h1 k (k + 1) (by simp; omega) (by simpa using hk) (by omega)
  simp at this
  exact this e
theorem two_nodup {its : List Dq} {i j : Nat} (hi : i < its.length) (hj : j < its.length) (hij : i ≠ j) (e : keyI its[i] = keyI its[j]) : ¬ (its.map keyI).Nodup := fun hn => by
  rcases Nat.lt_or_gt_of_ne hij with h | h
  · have := List.pairwise_iff_getElem.1 hn i j (by simpa using hi) (by simpa using hj) h
    simp at this; exact this e
  · have := List.pairwise_iff_getElem.1 hn j i (by simpa using hj) (by simpa using hi) h
    simp at this; exact this e.symm
theorem nodup_of {its : List Dq} (h : ∀ i j (hi : i < its.length) (hj : j < i), keyI its[i] ≠ keyI its[j]) : (its.map keyI).Nodup := by
  refine List.pairwise_iff_getElem.2 fun i j hi hj hij => ?_
  simp; exact fun e => h j i (by simpa using hj) hij e.symm
theorem rank_at {its : List Dq} {d : List Int} (h : Pl its.length d) (hr : Rise its d) {k j : Nat} (hk : k < d.length) (hj : d[k] = (j : Int)) (hjn : j < its.length) : (its.countP fun x => decide (keyI x < keyI its[j])) = k := by
  rw [← (inOrd_perm h).countP_eq, ← inOrd_at hk hj hjn, List.countP_eq_length_filter, filter_rise hr (by rw [inOrd_len]; exact hk), List.length_take, inOrd_len]; omega
/-- The ones ahead, and one that is ahead of no less, are no more than all ahead of a greater key. -/
theorem filter_le {its : List Dq} (hok : its.all okI = true) {p q : Dq → Bool} (hpq : ∀ x, p x = true → q x = true) {x : Dq} (hx : x ∈ its) (hp : p x = false) (hq : q x = true) : opens (its.filter p) + x.opn ≤ opens (its.filter q) := by
  have mono : ∀ l : List Dq, l.all okI = true → opens (l.filter p) ≤ opens (l.filter q) := by
    intro l
    induction l with
    | nil => intro _; simp
    | cons y l ih =>
      intro hl
      simp only [List.all_cons, Bool.and_eq_true] at hl
      have h1 := ih hl.2
      have h2 := okI_yes hl.1
      have e : ∀ l, opens (y :: l) = y.opn + opens l := fun l => by simp [opens]
      rw [List.filter_cons, List.filter_cons]
      by_cases hp : p y = true
      · rw [if_pos hp, if_pos (hpq y hp), e, e]; omega
      · rw [if_neg hp]; split
        · rw [e]; omega
        · exact h1
  induction its with
  | nil => cases hx
  | cons y l ih =>
    simp only [List.all_cons, Bool.and_eq_true] at hok
    have e : ∀ l, opens (y :: l) = y.opn + opens l := fun l => by simp [opens]
    have h2 := okI_yes hok.1
    have h3 := mono l hok.2
    rw [List.filter_cons, List.filter_cons]
    rcases List.mem_cons.1 hx with rfl | hx
    · rw [if_neg (by simp [hp]), if_pos hq, e]; omega
    · have h1 := ih hok.2 hx
      by_cases hp : p y = true
      · rw [if_pos hp, if_pos (hpq y hp), e, e]; omega
      · rw [if_neg hp]; split
        · rw [e]; omega
        · exact h1
theorem ahd_lt {its : List Dq} (hok : its.all okI = true) {x : Dq} (hx : x ∈ its) {K : Int} (h : keyI x < K) : ahd its (keyI x) + x.opn ≤ ahd its K :=
  filter_le hok (fun y hy => by simp at hy ⊢; omega) hx (by simp) (by simpa using h)
theorem ahd_all {its : List Dq} (hok : its.all okI = true) {x : Dq} (hx : x ∈ its) : ahd its (keyI x) + x.opn ≤ opens its := by
  have := filter_le hok (p := fun y => decide (keyI y < keyI x)) (q := fun _ => true) (fun _ _ => rfl) hx (by simp) rfl
  rw [List.filter_eq_self.2 (fun _ _ => rfl)] at this; exact this
theorem paid_bd {its : List Dq} (hok : its.all okI = true) {amount : Int} {x : Dq} (hx : x ∈ its) : 0 ≤ paidI its amount x ∧ paidI its amount x ≤ x.opn := by
  have := okI_yes (List.all_eq_true.1 hok x hx)
  unfold paidI clampP; omega
/-- All that is paid, and what is left, are the amount. -/
theorem paidSum {its : List Dq} {amount : Int} {d : List Int} (hok : its.all okI = true) (h : Pl its.length d) (hr : Rise its d) (ha : 0 ≤ amount) : (payL its amount).sum = amount - leftI its amount := by
  have key : ∀ k, k ≤ d.length → (paidTo its amount d k).sum = amount - leftTo its amount d k := by
    intro k
    induction k with
    | zero => intro _; rw [paidTo_zero, leftTo_zero ha]; have : ∀ n, (List.replicate n (0 : Int)).sum = 0 := fun n => by induction n with | zero => rfl | succ n ih => simp [List.replicate_succ, ih]
              rw [this]; omega
    | succ k ih =>
      intro hk
      obtain ⟨j, ej, hj⟩ := h.at (k := k) (by omega)
      obtain ⟨p1, p2⟩ := pay_step (amount := amount) hok h hr (by omega) ej hj
      have h0 : (paidTo its amount d k)[j]'(by rw [paidTo_len]; exact hj) = 0 := by
        have hno := nodup_take h.nodup (k := k) (by omega)
        rw [ej] at hno
        simp [paidTo, hno]
      rw [paidTo_step (by omega) ej hj, sum_set _ _ (by rw [paidTo_len]; exact hj), ih (by omega), h0, p2, p1]; omega
  rw [← paidTo_all h, key _ (Nat.le_refl _), leftTo_all h]
theorem sum_take_le {l : List Int} (h : ∀ x ∈ l, 0 ≤ x) (k : Nat) : (l.take k).sum ≤ l.sum := by
  have h5 : 0 ≤ (l.drop k).sum := sum_nonneg (fun x hx => h x (List.mem_of_mem_drop hx))
  have h6 : (l.take k).sum + (l.drop k).sum = l.sum := by rw [← List.sum_append, List.take_append_drop]
  omega
/-- What is open once an amount was paid. -/
def restI (its : List Dq) (a : Int) : List Dq := its.map fun x => ⟨x.due, x.kind, x.per, x.opn - paidI its a x⟩
theorem rest_ok {its : List Dq} (hok : its.all okI = true) (a : Int) : (restI its a).all okI = true := by
  rw [List.all_eq_true]
  intro y hy
  obtain ⟨x, hx, rfl⟩ := List.mem_map.1 hy
  have h1 := okI_yes (List.all_eq_true.1 hok x hx)
  have h2 := paid_bd hok (amount := a) hx
  simp only [okI, decide_eq_true_eq]; omega
theorem rest_keys (its : List Dq) (a : Int) : (restI its a).map keyI = its.map keyI := by simp [restI, keyI]
theorem rest_places {its : List Dq} (h : placesE its = 0) (a : Int) : placesE (restI its a) = 0 := by
  obtain ⟨h1, h2, h3⟩ := placesE_ok h
  unfold placesE
  rw [if_pos ⟨by simpa [restI] using h1, rest_ok h2 a⟩, if_pos (by rw [rest_keys]; exact h3)]
theorem rest_ahd {its : List Dq} {d : List Int} {a : Int} (hok : its.all okI = true) (h : Pl its.length d) (hr : Rise its d) (ha : 0 ≤ a) {x : Dq} (hx : x ∈ its) : ahd (restI its a) (keyI x) = max 0 (ahd its (keyI x) - a) := by
  obtain ⟨j, hj, rfl⟩ := List.mem_iff_getElem.1 hx
  obtain ⟨k, hk, ek⟩ := h.all hj
  have hl : (restI its a).length = its.length := by simp [restI]
  have h' : Pl (restI its a).length d := by rw [hl]; exact h
  have ein : inOrd (restI its a) d = (inOrd its d).map fun x => ⟨x.due, x.kind, x.per, x.opn - paidI its a x⟩ := by
    unfold inOrd restI
    rw [List.map_map]
    apply List.map_congr_left
    intro i hi
    obtain ⟨t, ht, et⟩ := List.mem_iff_getElem.1 hi
    obtain ⟨u, eu, hu⟩ := h.at ht
    rw [← et, eu]; simp [hu]
  have hr' : Rise (restI its a) d := by
    unfold Rise; rw [ein, List.pairwise_map]; exact hr
  have e1 := ahd_at h' hr' hk ek (by rw [hl]; exact hj)
  have e2 := ahd_at h hr hk ek hj
  have e3 : keyI ((restI its a)[j]'(by rw [hl]; exact hj)) = keyI its[j] := by simp [restI, keyI]
  rw [e3] at e1
  rw [e1, e2, ein, ← List.map_take]
  have key : ∀ k, k ≤ d.length → opens (((inOrd its d).take k).map fun x => ⟨x.due, x.kind, x.per, x.opn - paidI its a x⟩) = opens ((inOrd its d).take k) - (a - leftTo its a d k) := by
    intro k
    induction k with
    | zero => intro _; rw [leftTo_zero ha]; simp [opens]
    | succ k ih =>
      intro hk
      obtain ⟨i, ei, hi⟩ := h.at (k := k) (by omega)
      obtain ⟨p1, p2⟩ := pay_step (amount := a) hok h hr (by omega) ei hi
      have hk' : k < (inOrd its d).length := by rw [inOrd_len]; omega
      have e4 := inOrd_at (its := its) (by omega) ei hi
      rw [List.take_succ_eq_append_getElem hk', List.map_append, opens_app, opens_app, ih (by omega), e4, p2]
      have e5 : ∀ y : Dq, opens [y] = y.opn := fun y => by simp [opens]
      simp only [List.map_cons, List.map_nil, e5]
      rw [p1]; omega
  rw [key k (by omega)]
  unfold leftTo
  omega
/-- Two payments, one behind the other. -/
theorem twice {its : List Dq} {d : List Int} {a b : Int} (hok : its.all okI = true) (h : Pl its.length d) (hr : Rise its d) (ha : 0 ≤ a) (hb : 0 ≤ b) {x : Dq} (hx : x ∈ its) :
    paidI its a x + paidI (restI its a) b ⟨x.due, x.kind, x.per, x.opn - paidI its a x⟩ = paidI its (a + b) x := by
  have e : keyI (⟨x.due, x.kind, x.per, x.opn - paidI its a x⟩ : Dq) = keyI x := rfl
  have h1 := ahd_nonneg hok (keyI x)
  have h2 := okI_yes (List.all_eq_true.1 hok x hx)
  have h3 := rest_ahd hok h hr ha hx
  have e2 : paidI (restI its a) b ⟨x.due, x.kind, x.per, x.opn - paidI its a x⟩ = clampP (x.opn - paidI its a x) (b - max 0 (ahd its (keyI x) - a)) := by
    show clampP _ (b - ahd (restI its a) (keyI _)) = _
    rw [e, h3]
  rw [e2]
  unfold paidI clampP
  omega
theorem twice_left {its : List Dq} {d : List Int} {a b : Int} (hok : its.all okI = true) (h : Pl its.length d) (hr : Rise its d) (ha : 0 ≤ a) (hb : 0 ≤ b) : leftI its a + leftI (restI its a) b = leftI its (a + b) := by
  have h1 := paidSum hok h hr ha
  have e : opens (restI its a) = opens its - (payL its a).sum := by
    clear h1 h hr
    unfold restI payL
    generalize paidI its a = f
    induction its with
    | nil => simp [opens]
    | cons x l ih =>
      simp only [List.all_cons, Bool.and_eq_true] at hok
      have := ih hok.2
      simp only [opens, List.map_cons, List.sum_cons] at this ⊢; omega
  have h0 := opens_nonneg hok
  unfold leftI at *
  omega
theorem rev_paid (its : List Dq) (a : Int) : payL its.reverse a = (payL its a).reverse := by
  unfold payL
  rw [← List.map_reverse]
  apply List.map_congr_left
  intro x _
  unfold paidI
  rw [ahd_perm (List.reverse_perm its)]
theorem rev_left (its : List Dq) (a : Int) : leftI its.reverse a = leftI its a := by unfold leftI; rw [opens_perm (List.reverse_perm its)]
theorem rev_places (its : List Dq) : placesE its.reverse = placesE its := by
  have e : (its.reverse.map keyI).Nodup ↔ (its.map keyI).Nodup := ((List.reverse_perm its).map keyI).nodup_iff
  unfold placesE
  simp only [List.length_reverse, List.all_reverse, e]
/-- All that is open pays all. -/
theorem whole_paid {its : List Dq} (hok : its.all okI = true) {x : Dq} (hx : x ∈ its) : paidI its (opens its) x = x.opn := by
  have h1 := ahd_all hok hx
  have h2 := okI_yes (List.all_eq_true.1 hok x hx)
  unfold paidI clampP; omega
theorem less_paid {its : List Dq} (hok : its.all okI = true) {l : Dq} (hl : l ∈ its) (hlo : 0 < l.opn) {x : Dq} (hx : x ∈ its) (hk : 0 < x.opn → keyI x < keyI l) : paidI its (opens its - 1) x = x.opn := by
  have h2 := okI_yes (List.all_eq_true.1 hok x hx)
  by_cases h0 : 0 < x.opn
  · have h1 := ahd_lt hok hx (hk h0)
    have h3 := ahd_all hok hl
    unfold paidI clampP; omega
  · unfold paidI clampP; omega
theorem last_paid {its : List Dq} (hok : its.all okI = true) {l : Dq} (hl : l ∈ its) (hlo : 0 < l.opn) (hu : ∀ x ∈ its, 0 < x.opn → x = l ∨ keyI x < keyI l) (hnd : (its.map keyI).Nodup) : paidI its (opens its - 1) l = l.opn - 1 := by
  have e : ahd its (keyI l) + l.opn = opens its := by
    clear hlo
    unfold ahd
    induction its with
    | nil => cases hl
    | cons y s ih =>
      simp only [List.all_cons, Bool.and_eq_true] at hok
      simp only [List.map_cons, List.nodup_cons] at hnd
      have e : ∀ l, opens (y :: l) = y.opn + opens l := fun l => by simp [opens]
      have hy := okI_yes hok.1
      by_cases hmem : l ∈ s
      · have h1 := ih hok.2 hmem (fun x hx => hu x (by simp [hx])) hnd.2
        rw [List.filter_cons, e]
        have hne : keyI y ≠ keyI l := fun e => hnd.1 (by rw [e]; exact List.mem_map_of_mem hmem)
        by_cases hp : 0 < y.opn
        · rcases hu y (by simp) hp with rfl | h
          · exact absurd rfl hne
          · rw [if_pos (by simpa using h), e]; omega
        · split
          · rw [e]; omega
          · omega
      · have hyl : y = l := by rcases List.mem_cons.1 hl with h | h
                               · exact h.symm
                               · exact absurd h hmem
        subst hyl
        rw [List.filter_cons_of_neg (by simp), e]
        have hs : ∀ t : List Dq, (∀ x ∈ t, x ∈ s) → opens (t.filter fun x => decide (keyI x < keyI y)) = opens t := by
          intro t
          induction t with
          | nil => intro _; simp
          | cons z t iht =>
            intro ht
            have ez : ∀ l, opens (z :: l) = z.opn + opens l := fun l => by simp [opens]
            have hz := okI_yes (List.all_eq_true.1 hok.2 z (ht z (by simp)))
            have h1 := iht (fun x hx => ht x (by simp [hx]))
            have hne : z ≠ y := fun e => hnd.1 (by rw [← e]; exact List.mem_map_of_mem (ht z (by simp)))
            rw [List.filter_cons, ez]
            by_cases hp : 0 < z.opn
            · rcases hu z (by simp [ht z (by simp)]) hp with h | h
              · exact absurd h hne
              · rw [if_pos (by simpa using h), ez, h1]
            · split
              · rw [ez, h1]
              · rw [h1]; omega
        rw [hs s (fun _ h => h)]; omega
  have h1 := ahd_nonneg hok (keyI l)
  have h2 := okI_yes (List.all_eq_true.1 hok l hl)
  unfold paidI clampP; omega
end Go.Proofs.Ytcoeooakimbkbaa
