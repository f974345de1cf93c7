/- Laws. -/

namespace Go.Proofs.YtbjjgnaojoaoiaaGreat
set_option linter.unusedVariables false
set_option linter.unusedSimpArgs false
set_option maxHeartbeats 1600000
set_option maxRecDepth 100000
abbrev gt (d : List Int) (p : Nat) : Int := d.getD p 0
def swp (d : List Int) (i j : Nat) : List Int := (d.set i (gt d j)).set j (gt d i)
theorem gt_set (d : List Int) (i : Nat) (v : Int) (p : Nat) (hi : i < d.length) : gt (d.set i v) p = if p = i then v else gt d p := by
 unfold gt
 rw [List.getD_eq_getElem?_getD, List.getElem?_set, List.getD_eq_getElem?_getD]
 by_cases h : p = i
 · subst h; simp [hi]
 · rw [if_neg (by omega), if_neg h]
theorem swp_len (d : List Int) (i j : Nat) : (swp d i j).length = d.length := by simp [swp]
theorem gt_swp (d : List Int) (i j p : Nat) (hi : i < d.length) (hj : j < d.length) : gt (swp d i j) p = if p = j then gt d i else if p = i then gt d j else gt d p := by
 unfold swp
 rw [gt_set _ _ _ _ (by simpa using hj), gt_set _ _ _ _ hi]
theorem gt_eq (d : List Int) (i : Nat) (hi : i < d.length) : gt d i = d[i] := by simp [gt, hi]
theorem swp_perm (d : List Int) (i j : Nat) (hi : i < d.length) (hj : j < d.length) : (swp d i j).Perm d := by
 rw [List.perm_iff_count]
 intro x
 unfold swp
 rw [List.count_set (by simpa using hj), List.count_set hi, List.getElem_set]
 have e1 := gt_eq d i hi
 have e2 := gt_eq d j hj
 have c1 : (d[i] == x) = true → 1 ≤ d.count x := fun h => List.one_le_count_iff.2 (by rw [← beq_iff_eq.1 h]; exact List.getElem_mem hi)
 by_cases hij : i = j
 · subst hij
   simp only [if_true, e1]
   by_cases h1 : (d[i] == x) = true
   · have := c1 h1; simp [h1]; omega
   · simp [h1]
 · simp only [hij, if_false, e1, e2]
   by_cases h1 : (d[i] == x) = true <;> by_cases h2 : (d[j] == x) = true
   all_goals simp [h1, h2]
   · have := c1 h1; omega
   · have := c1 h1; omega
structure PIn (lo hi : Nat) (d d' : List Int) : Prop where
 len : d'.length = d.length
 out : ∀ p, (p < lo ∨ hi ≤ p) → gt d' p = gt d p
 mem : ∀ p, lo ≤ p → p < hi → ∃ q, lo ≤ q ∧ q < hi ∧ gt d' p = gt d q
 perm : d'.Perm d
theorem PIn.refl (lo hi : Nat) (d : List Int) : PIn lo hi d d := ⟨rfl, fun _ _ => rfl, fun p h1 h2 => ⟨p, h1, h2, rfl⟩, List.Perm.refl _⟩
theorem PIn.trans {lo hi : Nat} {a b c : List Int} (h1 : PIn lo hi a b) (h2 : PIn lo hi b c) : PIn lo hi a c :=
 ⟨h2.len.trans h1.len, fun p hp => (h2.out p hp).trans (h1.out p hp), fun p hp hq => by
   obtain ⟨q, q1, q2, e⟩ := h2.mem p hp hq
   obtain ⟨r, r1, r2, e'⟩ := h1.mem q q1 q2
   exact ⟨r, r1, r2, e.trans e'⟩, h2.perm.trans h1.perm⟩
structure Swd (a b i : Nat) (d d' : List Int) : Prop where
 one : ∀ t, t < i → gt d' (a + t) = gt d (b + t)
 two : ∀ t, t < i → gt d' (b + t) = gt d (a + t)
 out : ∀ p, (p < a ∨ a + i ≤ p) → (p < b ∨ b + i ≤ p) → gt d' p = gt d p
 len : d'.length = d.length
 perm : d'.Perm d
theorem Swd.refl (a b : Nat) (d : List Int) : Swd a b 0 d d := ⟨fun t h => by omega, fun t h => by omega, fun _ _ _ => rfl, rfl, List.Perm.refl _⟩
theorem Swd.step {a b i : Nat} {d d' : List Int} (h : Swd a b i d d') (hab : a + i < b) (hl : b + i < d.length) : Swd a b (i + 1) d (swp d' (a + i) (b + i)) := by
 have hl' := h.len
 have g := fun p => gt_swp d' (a + i) (b + i) p (by omega) (by omega)
 refine ⟨fun t ht => ?_, fun t ht => ?_, fun p h1 h2 => ?_, (swp_len _ _ _).trans h.len, (swp_perm _ _ _ (by omega) (by omega)).trans h.perm⟩
 · rw [g]
   by_cases e : t = i
   · subst e; rw [if_neg (by omega), if_pos rfl]; exact h.out _ (by omega) (by omega)
   · rw [if_neg (by omega), if_neg (by omega)]; exact h.one t (by omega)
 · rw [g]
   by_cases e : t = i
   · subst e; rw [if_pos rfl]; exact h.out _ (by omega) (by omega)
   · rw [if_neg (by omega), if_neg (by omega)]; exact h.two t (by omega)
 · rw [g, if_neg (by omega), if_neg (by omega)]; exact h.out p (by omega) (by omega)
def Rk (f : Int → Int) (x y : Int) : Prop := f y < f x ∨ (f x = f y ∧ x < y)
theorem Rk.trans {f : Int → Int} {x y z : Int} (h1 : Rk f x y) (h2 : Rk f y z) : Rk f x z := by unfold Rk at *; omega
structure Up (a k : Nat) (d d' : List Int) : Prop where
 ahead : ∀ p, a ≤ p → p < k → gt d' p = gt d (p + 1)
 here : gt d' k = gt d a
 out : ∀ p, (p < a ∨ k < p) → gt d' p = gt d p
 len : d'.length = d.length
 perm : d'.Perm d
theorem Up.step {a k : Nat} {d d' : List Int} (h : Up a k d d') (hak : a ≤ k) (hl : k + 1 < d.length) : Up a (k + 1) d (swp d' k (k + 1)) := by
 have hl' := h.len
 have g := fun p => gt_swp d' k (k + 1) p (by omega) (by omega)
 refine ⟨fun p p1 p2 => ?_, ?_, fun p hp => ?_, (swp_len _ _ _).trans h.len, (swp_perm _ _ _ (by omega) (by omega)).trans h.perm⟩
 · rw [g, if_neg (by omega)]
   by_cases e : p = k
   · subst e; rw [if_pos rfl]; exact h.out _ (by omega)
   · rw [if_neg e]; exact h.ahead p p1 (by omega)
 · rw [g, if_pos rfl]; exact h.here
 · rw [g, if_neg (by omega), if_neg (by omega)]; exact h.out p (by omega)
structure Down (m k : Nat) (d d' : List Int) : Prop where
 behind : ∀ p, k < p → p ≤ m → gt d' p = gt d (p - 1)
 here : gt d' k = gt d m
 out : ∀ p, (p < k ∨ m < p) → gt d' p = gt d p
 len : d'.length = d.length
 perm : d'.Perm d
theorem Down.step {m k : Nat} {d d' : List Int} (h : Down m (k + 1) d d') (hk : k + 1 ≤ m) (hl : m < d.length) : Down m k d (swp d' (k + 1) k) := by
 have hl' := h.len
 have g := fun p => gt_swp d' (k + 1) k p (by omega) (by omega)
 refine ⟨fun p p1 p2 => ?_, ?_, fun p hp => ?_, (swp_len _ _ _).trans h.len, (swp_perm _ _ _ (by omega) (by omega)).trans h.perm⟩
 · rw [g, if_neg (by omega)]
   by_cases e : p = k + 1
   · subst e; rw [if_pos rfl]; exact h.out _ (by omega)
   · rw [if_neg e]; exact h.behind p (by omega) p2
 · rw [g, if_pos rfl]; exact h.here
 · rw [g, if_neg (by omega), if_neg (by omega)]; exact h.out p (by omega)
structure Ins (f : Int → Int) (a i j : Nat) (d : List Int) : Prop where
 rest : ∀ p q, a ≤ p → p < q → q ≤ i → p ≠ j → q ≠ j → Rk f (gt d p) (gt d q)
 behind : ∀ q, j < q → q ≤ i → Rk f (gt d j) (gt d q)
 most : ∀ p, a ≤ p → p ≤ i → p ≠ j → gt d p < gt d j
theorem Ins.step {f : Int → Int} {a i j : Nat} {d : List Int} (h : Ins f a i (j + 1) d) (haj : a ≤ j) (hji : j + 1 ≤ i) (hl : i < d.length) (hlt : f (gt d j) < f (gt d (j + 1))) : Ins f a i j (swp d (j + 1) j) := by
 have g := fun p => gt_swp d (j + 1) j p (by omega) (by omega)
 have gj : gt (swp d (j + 1) j) j = gt d (j + 1) := by rw [g, if_pos rfl]
 have gj1 : gt (swp d (j + 1) j) (j + 1) = gt d j := by rw [g, if_neg (by omega), if_pos rfl]
 have go : ∀ p, p ≠ j → p ≠ j + 1 → gt (swp d (j + 1) j) p = gt d p := fun p h1 h2 => by rw [g, if_neg h1, if_neg h2]
 refine ⟨fun p q p1 p2 p3 p4 p5 => ?_, fun q q1 q2 => ?_, fun p p1 p2 p3 => ?_⟩
 · by_cases e1 : p = j + 1
   · subst e1; rw [gj1, go q (by omega) (by omega)]; exact h.rest j q haj (by omega) p3 (by omega) (by omega)
   · rw [go p p4 e1]
     by_cases e2 : q = j + 1
     · subst e2; rw [gj1]; exact h.rest p j p1 (by omega) (by omega) (by omega) (by omega)
     · rw [go q p5 e2]; exact h.rest p q p1 p2 p3 e1 e2
 · rw [gj]
   by_cases e : q = j + 1
   · subst e; rw [gj1]; exact .inl hlt
   · rw [go q (by omega) e]; exact h.behind q (by omega) q2
 · rw [gj]
   by_cases e : p = j + 1
   · subst e; rw [gj1]; exact h.most j haj (by omega) (by omega)
   · rw [go p p3 e]; exact h.most p p1 p2 e
theorem mem_take_succ {d : List Int} {k : Nat} (h : k < d.length) (x : Int) : x ∈ d.take (k + 1) ↔ x ∈ d.take k ∨ x = d[k] := by
 rw [List.take_succ_eq_append_getElem h, List.mem_append, List.mem_singleton]
theorem nodup_take {d : List Int} (hn : d.Nodup) {k : Nat} (h : k < d.length) : d[k] ∉ d.take k := by
 intro hm
 obtain ⟨j, hj, e⟩ := List.mem_iff_getElem.1 hm
 rw [List.getElem_take] at e
 have hj' : j < k := by simp at hj; omega
 exact List.pairwise_iff_getElem.1 hn j k (by omega) h hj' e
theorem sum_set (l : List Int) (j : Nat) (h : j < l.length) (v : Int) : (l.set j v).sum = l.sum - l[j] + v := by
 induction l generalizing j with
 | nil => simp at h
 | cons x l ih =>
   cases j with
   | zero => simp; omega
   | succ j => simp only [List.set_cons_succ, List.sum_cons, List.getElem_cons_succ]; rw [ih j (by simpa using h)]; omega
def Pl (n : Nat) (d : List Int) : Prop := d.Perm ((List.range n).map fun (i : Nat) => (i : Int))
theorem Pl.len {n : Nat} {d : List Int} (h : Pl n d) : d.length = n := by have := h.length_eq; simpa using this
theorem Pl.nodup {n : Nat} {d : List Int} (h : Pl n d) : d.Nodup := by
 refine h.nodup_iff.2 ?_
 refine List.pairwise_iff_getElem.2 fun i j hi hj hij => ?_
 simp; omega
theorem Pl.at {n : Nat} {d : List Int} (h : Pl n d) {k : Nat} (hk : k < d.length) : ∃ j : Nat, d[k] = (j : Int) ∧ j < n := by
 have := h.mem_iff.1 (List.getElem_mem hk)
 obtain ⟨j, hj, e⟩ := List.mem_map.1 this
 exact ⟨j, e.symm, by simpa using hj⟩
theorem Pl.all {n : Nat} {d : List Int} (h : Pl n d) {j : Nat} (hj : j < n) : ∃ k, ∃ hk : k < d.length, d[k] = (j : Int) := by
 have : (j : Int) ∈ d := h.mem_iff.2 (List.mem_map.2 ⟨j, by simpa using hj, rfl⟩)
 exact List.mem_iff_getElem.1 this
theorem sum_nonneg : ∀ {l : List Int}, (∀ x ∈ l, 0 ≤ x) → 0 ≤ l.sum
 | [], _ => by simp
 | x :: l, h => by have := sum_nonneg (l := l) (fun y hy => h y (by simp [hy])); have := h x (by simp); simp only [List.sum_cons]; omega
structure Dq where
 due : Int
 kind : Int
 per : Int
 opn : Int
def okI (x : Dq) : Bool := decide (0 ≤ x.due ∧ x.due ≤ 3652058 ∧ 0 ≤ x.kind ∧ x.kind ≤ 2 ∧ 1 ≤ x.per ∧ x.per ≤ 99999 ∧ 0 ≤ x.opn ∧ x.opn ≤ 4611686018427387904)
def keyI (x : Dq) : Int := (x.due * 4 + x.kind) * 100000 + x.per
theorem okI_yes {x : Dq} (h : okI x = true) : 0 ≤ x.due ∧ x.due ≤ 3652058 ∧ 0 ≤ x.kind ∧ x.kind ≤ 2 ∧ 1 ≤ x.per ∧ x.per ≤ 99999 ∧ 0 ≤ x.opn ∧ x.opn ≤ 4611686018427387904 := by simpa [okI] using h
def aheadI (a b : Dq) : Bool := if a.due ≠ b.due then decide (a.due < b.due) else if a.kind ≠ b.kind then decide (a.kind < b.kind) else decide (a.per < b.per)
theorem aheadI_key {a b : Dq} (ha : okI a = true) (hb : okI b = true) : aheadI a b = decide (keyI a < keyI b) := by
 have h1 := okI_yes ha
 have h2 := okI_yes hb
 unfold aheadI keyI
 by_cases e1 : a.due = b.due
 · by_cases e2 : a.kind = b.kind
   · simp only [e1, e2, ne_eq, not_true_eq_false, if_false]; congr 1; exact propext ⟨by omega, by omega⟩
   · simp only [e1, e2, ne_eq, not_true_eq_false, not_false_eq_true, if_true, if_false]; congr 1; exact propext ⟨by omega, by omega⟩
 · simp only [e1, ne_eq, not_false_eq_true, if_true]; congr 1; exact propext ⟨by omega, by omega⟩
def placesE (its : List Dq) : Int := if its.length ≤ 200 ∧ its.all okI = true then (if (its.map keyI).Nodup then 0 else 5) else 1
def opens (its : List Dq) : Int := (its.map Dq.opn).sum
def ahd (its : List Dq) (k : Int) : Int := opens (its.filter fun x => decide (keyI x < k))
def clampP (o n : Int) : Int := max 0 (min o n)
def paidI (its : List Dq) (amount : Int) (x : Dq) : Int := clampP x.opn (amount - ahd its (keyI x))
def payL (its : List Dq) (amount : Int) : List Int := its.map (paidI its amount)
def leftI (its : List Dq) (amount : Int) : Int := max 0 (amount - opens its)
theorem sum_perm {a b : List Int} (h : a.Perm b) : a.sum = b.sum := by
 induction h with
 | nil => rfl
 | cons x _ ih => simp [ih]
 | swap x y l => simp only [List.sum_cons]; omega
 | trans _ _ h1 h2 => exact h1.trans h2
theorem opens_perm {a b : List Dq} (h : a.Perm b) : opens a = opens b := sum_perm (h.map _)
theorem ahd_perm {a b : List Dq} (h : a.Perm b) (k : Int) : ahd a k = ahd b k := opens_perm (h.filter _)
theorem opens_app (a b : List Dq) : opens (a ++ b) = opens a + opens b := by simp [opens]
theorem opens_nonneg {its : List Dq} (h : its.all okI = true) : 0 ≤ opens its := sum_nonneg fun x hx => by
 obtain ⟨q, hq, rfl⟩ := List.mem_map.1 hx
 have := okI_yes (List.all_eq_true.1 h q hq); omega
def inOrd (its : List Dq) (d : List Int) : List Dq := d.map fun i => its.getD i.toNat ⟨0, 0, 0, 0⟩
theorem inOrd_perm {its : List Dq} {d : List Int} (h : Pl its.length d) : (inOrd its d).Perm its := by
 have h1 : (inOrd its d).Perm (((List.range its.length).map fun (i : Nat) => (i : Int)).map fun i => its.getD i.toNat ⟨0, 0, 0, 0⟩) := List.Perm.map _ h
 have h2 : (((List.range its.length).map fun (i : Nat) => (i : Int)).map fun i => its.getD i.toNat ⟨0, 0, 0, 0⟩) = its := by
  apply List.ext_getElem (by simp)
  intro i h1 h2; simp at h1; simp [h1]
 rw [h2] at h1; exact h1
theorem inOrd_len (its : List Dq) (d : List Int) : (inOrd its d).length = d.length := by simp [inOrd]
theorem inOrd_at {its : List Dq} {d : List Int} {k j : Nat} (hk : k < d.length) (hj : d[k] = (j : Int)) (hjn : j < its.length) : (inOrd its d)[k]'(by rw [inOrd_len]; exact hk) = its[j] := by
 simp [inOrd, hj, hjn]
def Rise (its : List Dq) (d : List Int) : Prop := (inOrd its d).Pairwise fun a b => keyI a < keyI b
theorem filter_rise {s : List Dq} (h : s.Pairwise fun a b => keyI a < keyI b) {k : Nat} (hk : k < s.length) : s.filter (fun x => decide (keyI x < keyI s[k])) = s.take k := by
 induction s generalizing k with
 | nil => simp at hk
 | cons x s ih =>
   rw [List.pairwise_cons] at h
   cases k with
   | zero =>
     simp only [List.getElem_cons_zero, List.take_zero]
     rw [List.filter_eq_nil_iff]
     intro y hy
     rcases List.mem_cons.1 hy with rfl | hy
     · simp
     · have := h.1 y hy; simp; omega
   | succ k =>
     simp only [List.getElem_cons_succ, List.take_succ_cons]
     have hx := h.1 _ (List.getElem_mem (l := s) (n := k) (by simpa using hk))
     rw [List.filter_cons_of_pos (by simpa using hx), ih h.2 (by simpa using hk)]
theorem ahd_at {its : List Dq} {d : List Int} (h : Pl its.length d) (hr : Rise its d) {k j : Nat} (hk : k < d.length) (hj : d[k] = (j : Int)) (hjn : j < its.length) : ahd its (keyI its[j]) = opens ((inOrd its d).take k) := by
 rw [← ahd_perm (inOrd_perm h), ← inOrd_at hk hj hjn]
 unfold ahd
 rw [filter_rise hr (by rw [inOrd_len]; exact hk)]
theorem opens_take {s : List Dq} {k : Nat} (hk : k < s.length) : opens (s.take (k + 1)) = opens (s.take k) + s[k].opn := by
 rw [List.take_succ_eq_append_getElem hk, opens_app]; simp [opens]
def paidTo (its : List Dq) (amount : Int) (d : List Int) (k : Nat) : List Int := (payL its amount).mapIdx fun i x => if (i : Int) ∈ d.take k then x else 0
theorem paidTo_len (its : List Dq) (amount : Int) (d : List Int) (k : Nat) : (paidTo its amount d k).length = its.length := by simp [paidTo, payL]
theorem paidTo_zero (its : List Dq) (amount : Int) (d : List Int) : paidTo its amount d 0 = List.replicate its.length 0 := by
 apply List.ext_getElem (by simp [paidTo, payL])
 intro i h1 h2; simp [paidTo]
theorem paidTo_step {its : List Dq} {amount : Int} {d : List Int} {k j : Nat} (h : k < d.length) (hj : d[k] = (j : Int)) (hjq : j < its.length) :
  paidTo its amount d (k + 1) = (paidTo its amount d k).set j (paidI its amount its[j]) := by
 apply List.ext_getElem (by simp [paidTo, payL])
 intro i h1 h2
 rw [List.getElem_set]
 simp only [paidTo, payL, List.getElem_mapIdx, List.getElem_map, mem_take_succ h, hj]
 by_cases e : j = i
 · subst e; simp
 · have : ¬ ((i : Int) = (j : Int)) := by omega
   simp [e, this]
theorem paidTo_all {its : List Dq} {amount : Int} {d : List Int} (h : Pl its.length d) : paidTo its amount d d.length = payL its amount := by
 apply List.ext_getElem (by simp [paidTo, payL])
 intro i h1 h2
 simp only [paidTo, List.getElem_mapIdx, List.take_length]
 rw [if_pos]
 exact h.mem_iff.2 (List.mem_map.2 ⟨i, by simp [paidTo, payL] at h1; simpa using h1, rfl⟩)
def leftTo (its : List Dq) (amount : Int) (d : List Int) (k : Nat) : Int := max 0 (amount - opens ((inOrd its d).take k))
theorem leftTo_zero {its : List Dq} {amount : Int} {d : List Int} (h : 0 ≤ amount) : leftTo its amount d 0 = amount := by simp [leftTo, opens]; omega
theorem leftTo_all {its : List Dq} {amount : Int} {d : List Int} (h : Pl its.length d) : leftTo its amount d d.length = leftI its amount := by
 unfold leftTo leftI
 rw [List.take_of_length_le (by rw [inOrd_len]; omega), opens_perm (inOrd_perm h)]
theorem pay_step {its : List Dq} {amount : Int} {d : List Int} (hok : its.all okI = true) (h : Pl its.length d) (hr : Rise its d) {k j : Nat} (hk : k < d.length) (hj : d[k] = (j : Int)) (hjn : j < its.length) :
  paidI its amount its[j] = min its[j].opn (leftTo its amount d k) ∧ leftTo its amount d (k + 1) = leftTo its amount d k - min its[j].opn (leftTo its amount d k) := by
 have h1 := ahd_at h hr hk hj hjn
 have h2 := okI_yes (List.all_eq_true.1 hok _ (List.getElem_mem hjn))
 have h3 : opens ((inOrd its d).take (k + 1)) = opens ((inOrd its d).take k) + its[j].opn := by
  rw [opens_take (by rw [inOrd_len]; exact hk), inOrd_at hk hj hjn]
 unfold paidI leftTo clampP
 rw [h1, h3]
 omega
theorem placesE_ok {its : List Dq} (h : placesE its = 0) : its.length ≤ 200 ∧ its.all okI = true ∧ (its.map keyI).Nodup := by
 unfold placesE at h
 by_cases h1 : its.length ≤ 200 ∧ its.all okI = true
 · rw [if_pos h1] at h
   by_cases h2 : (its.map keyI).Nodup
   · exact ⟨h1.1, h1.2, h2⟩
   · rw [if_neg h2] at h; omega
 · rw [if_neg h1] at h; omega
theorem placesE_cases (its : List Dq) : placesE its = 0 ∨ placesE its = 1 ∨ placesE its = 5 := by
 unfold placesE; split
 · split <;> simp
 · simp
theorem rise_of' {s : List Dq} (hs : s.Pairwise fun a b => ¬ keyI b < keyI a) (hn : ∀ k (h : k + 1 < s.length), keyI (s[k]) ≠ keyI (s[k + 1])) : s.Pairwise fun a b => keyI a < keyI b := by
 rw [List.pairwise_iff_getElem] at hs ⊢
 intro i j hi hj hij
 have h1 := hn i (by omega)
 have h2 := hs i (i + 1) hi (by omega) (by omega)
 by_cases e : i + 1 = j
 · subst e; omega
 · have h3 := hs (i + 1) j (by omega) hj (by omega); omega
theorem rise_of {its : List Dq} {d : List Int} (hs : (inOrd its d).Pairwise fun a b => ¬ keyI b < keyI a) (hn : ∀ k (h : k + 1 < (inOrd its d).length), keyI ((inOrd its d)[k]) ≠ keyI ((inOrd its d)[k + 1])) : Rise its d := rise_of' hs hn
theorem rise_nodup {its : List Dq} {d : List Int} (h : Pl its.length d) (hr : Rise its d) : (its.map keyI).Nodup := by
 have h1 : ((inOrd its d).map keyI).Nodup := by
  refine List.pairwise_map.2 (hr.imp ?_)
  intro a b hab; omega
 exact ((inOrd_perm h).map keyI).nodup_iff.1 h1
theorem not_nodup {its : List Dq} {d : List Int} (h : Pl its.length d) {k : Nat} (hk : k + 1 < (inOrd its d).length) (e : keyI ((inOrd its d)[k]) = keyI ((inOrd its d)[k + 1])) : ¬ (its.map keyI).Nodup := fun hn => by
 have h1 := ((inOrd_perm h).map keyI).nodup_iff.2 hn
 have := List.pairwise_iff_getElem.1 h1 k (k + 1) (by simp; omega) (by simpa using hk) (by omega)
 simp at this
 exact this e
theorem two_nodup {its : List Dq} {i j : Nat} (hi : i < its.length) (hj : j < its.length) (hij : i ≠ j) (e : keyI its[i] = keyI its[j]) : ¬ (its.map keyI).Nodup := fun hn => by
 rcases Nat.lt_or_gt_of_ne hij with h | h
 · have := List.pairwise_iff_getElem.1 hn i j (by simpa using hi) (by simpa using hj) h
   simp at this; exact this e
 · have := List.pairwise_iff_getElem.1 hn j i (by simpa using hj) (by simpa using hi) h
   simp at this; exact this e.symm
theorem nodup_of {its : List Dq} (h : ∀ i j (hi : i < its.length) (hj : j < i), keyI its[i] ≠ keyI its[j]) : (its.map keyI).Nodup := by
 refine List.pairwise_iff_getElem.2 fun i j hi hj hij => ?_
 simp; exact fun e => h j i (by simpa using hj) hij e.symm
theorem rank_at {its : List Dq} {d : List Int} (h : Pl its.length d) (hr : Rise its d) {k j : Nat} (hk : k < d.length) (hj : d[k] = (j : Int)) (hjn : j < its.length) : (its.countP fun x => decide (keyI x < keyI its[j])) = k := by
 rw [← (inOrd_perm h).countP_eq, ← inOrd_at hk hj hjn, List.countP_eq_length_filter, filter_rise hr (by rw [inOrd_len]; exact hk), List.length_take, inOrd_len]; omega
theorem paid_bd {its : List Dq} (hok : its.all okI = true) {amount : Int} {x : Dq} (hx : x ∈ its) : 0 ≤ paidI its amount x ∧ paidI its amount x ≤ x.opn := by
 have := okI_yes (List.all_eq_true.1 hok x hx)
 unfold paidI clampP; omega
theorem paidSum {its : List Dq} {amount : Int} {d : List Int} (hok : its.all okI = true) (h : Pl its.length d) (hr : Rise its d) (ha : 0 ≤ amount) : (payL its amount).sum = amount - leftI its amount := by
 have key : ∀ k, k ≤ d.length → (paidTo its amount d k).sum = amount - leftTo its amount d k := by
  intro k
  induction k with
  | zero => intro _; rw [paidTo_zero, leftTo_zero ha]; have : ∀ n, (List.replicate n (0 : Int)).sum = 0 := fun n => by induction n with | zero => rfl | succ n ih => simp [List.replicate_succ, ih]
            rw [this]; omega
  | succ k ih =>
    intro hk
    obtain ⟨j, ej, hj⟩ := h.at (k := k) (by omega)
    obtain ⟨p1, p2⟩ := pay_step (amount := amount) hok h hr (by omega) ej hj
    have h0 : (paidTo its amount d k)[j]'(by rw [paidTo_len]; exact hj) = 0 := by
     have hno := nodup_take h.nodup (k := k) (by omega)
     rw [ej] at hno
     simp [paidTo, hno]
    rw [paidTo_step (by omega) ej hj, sum_set _ _ (by rw [paidTo_len]; exact hj), ih (by omega), h0, p2, p1]; omega
 rw [← paidTo_all h, key _ (Nat.le_refl _), leftTo_all h]
def restI (its : List Dq) (a : Int) : List Dq := its.map fun x => ⟨x.due, x.kind, x.per, x.opn - paidI its a x⟩
end Go.Proofs.YtbjjgnaojoaoiaaGreat
