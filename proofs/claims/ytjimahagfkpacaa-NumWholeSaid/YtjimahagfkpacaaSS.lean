/- Sorting in place, in plain words: exchange, exchange of ranges, rotation, and the order by a key and by place. -/
namespace Go.Proofs.Ytjimahagfkpacaa
set_option linter.unusedVariables false
set_option linter.unusedSimpArgs false

abbrev gt (d : List Int) (p : Nat) : Int := d.getD p 0
def swp (d : List Int) (i j : Nat) : List Int := (d.set i (gt d j)).set j (gt d i)
theorem gt_set (d : List Int) (i : Nat) (v : Int) (p : Nat) (hi : i < d.length) : gt (d.set i v) p = if p = i then v else gt d p := by
  unfold gt
  rw [List.getD_eq_getElem?_getD, List.getElem?_set, List.getD_eq_getElem?_getD]
  by_cases h : p = i
  · subst h; simp [hi]
  · rw [if_neg (by omega), if_neg h]
theorem swp_len (d : List Int) (i j : Nat) : (swp d i j).length = d.length := by simp [swp]
theorem gt_swp (d : List Int) (i j p : Nat) (hi : i < d.length) (hj : j < d.length) : gt (swp d i j) p = if p = j then gt d i else if p = i then gt d j else gt d p := by
  unfold swp
  rw [gt_set _ _ _ _ (by simpa using hj), gt_set _ _ _ _ hi]
theorem gt_eq (d : List Int) (i : Nat) (hi : i < d.length) : gt d i = d[i] := by simp [gt, hi]
theorem swp_perm (d : List Int) (i j : Nat) (hi : i < d.length) (hj : j < d.length) : (swp d i j).Perm d := by
  rw [List.perm_iff_count]
  intro x
  unfold swp
  rw [List.count_set (by simpa using hj), List.count_set hi, List.getElem_set]
  have e1 := gt_eq d i hi
  have e2 := gt_eq d j hj
  have c1 : (d[i] == x) = true → 1 ≤ d.count x := fun h => List.one_le_count_iff.2 (by rw [← beq_iff_eq.1 h]; exact List.getElem_mem hi)
  by_cases hij : i = j
  · subst hij
    simp only [if_true, e1]
    by_cases h1 : (d[i] == x) = true
    · have := c1 h1; simp [h1]; omega
    · simp [h1]
  · simp only [hij, if_false, e1, e2]
    by_cases h1 : (d[i] == x) = true <;> by_cases h2 : (d[j] == x) = true
    all_goals simp [h1, h2]
    · have := c1 h1; omega
    · have := c1 h1; omega
/-- Only places lo .. hi have turned, among themselves. -/
structure PIn (lo hi : Nat) (d d' : List Int) : Prop where
  len : d'.length = d.length
  out : ∀ p, (p < lo ∨ hi ≤ p) → gt d' p = gt d p
  mem : ∀ p, lo ≤ p → p < hi → ∃ q, lo ≤ q ∧ q < hi ∧ gt d' p = gt d q
  perm : d'.Perm d
theorem PIn.refl (lo hi : Nat) (d : List Int) : PIn lo hi d d := ⟨rfl, fun _ _ => rfl, fun p h1 h2 => ⟨p, h1, h2, rfl⟩, List.Perm.refl _⟩
theorem PIn.trans {lo hi : Nat} {a b c : List Int} (h1 : PIn lo hi a b) (h2 : PIn lo hi b c) : PIn lo hi a c :=
  ⟨h2.len.trans h1.len, fun p hp => (h2.out p hp).trans (h1.out p hp), fun p hp hq => by
    obtain ⟨q, q1, q2, e⟩ := h2.mem p hp hq
    obtain ⟨r, r1, r2, e'⟩ := h1.mem q q1 q2
    exact ⟨r, r1, r2, e.trans e'⟩, h2.perm.trans h1.perm⟩
theorem PIn.wide {lo hi lo' hi' : Nat} {a b : List Int} (h : PIn lo hi a b) (h1 : lo' ≤ lo) (h2 : hi ≤ hi') : PIn lo' hi' a b :=
  ⟨h.len, fun p hp => h.out p (by omega), fun p hp hq => by
    by_cases hin : lo ≤ p ∧ p < hi
    · obtain ⟨q, q1, q2, e⟩ := h.mem p hin.1 hin.2
      exact ⟨q, by omega, by omega, e⟩
    · exact ⟨p, hp, hq, h.out p (by omega)⟩, h.perm⟩
theorem PIn.swp {lo hi i j : Nat} {d : List Int} (hi1 : lo ≤ i) (hi2 : i < hi) (hj1 : lo ≤ j) (hj2 : j < hi) (hl : hi ≤ d.length) : PIn lo hi d (swp d i j) :=
  ⟨swp_len d i j, fun p hp => by rw [gt_swp _ _ _ _ (by omega) (by omega), if_neg (by omega), if_neg (by omega)], fun p h1 h2 => by
    rw [gt_swp _ _ _ _ (by omega) (by omega)]
    by_cases e1 : p = j
    · exact ⟨i, hi1, hi2, by rw [if_pos e1]⟩
    · by_cases e2 : p = i
      · exact ⟨j, hj1, hj2, by rw [if_neg e1, if_pos e2]⟩
      · exact ⟨p, h1, h2, by rw [if_neg e1, if_neg e2]⟩, swp_perm d i j (by omega) (by omega)⟩

/-- i of n exchanges of the range at a with that at b are done. -/
structure Swd (a b i : Nat) (d d' : List Int) : Prop where
  one : ∀ t, t < i → gt d' (a + t) = gt d (b + t)
  two : ∀ t, t < i → gt d' (b + t) = gt d (a + t)
  out : ∀ p, (p < a ∨ a + i ≤ p) → (p < b ∨ b + i ≤ p) → gt d' p = gt d p
  len : d'.length = d.length
  perm : d'.Perm d
theorem Swd.refl (a b : Nat) (d : List Int) : Swd a b 0 d d := ⟨fun t h => by omega, fun t h => by omega, fun _ _ _ => rfl, rfl, List.Perm.refl _⟩
theorem Swd.step {a b i : Nat} {d d' : List Int} (h : Swd a b i d d') (hab : a + i < b) (hl : b + i < d.length) : Swd a b (i + 1) d (swp d' (a + i) (b + i)) := by
  have hl' := h.len
  have g := fun p => gt_swp d' (a + i) (b + i) p (by omega) (by omega)
  refine ⟨fun t ht => ?_, fun t ht => ?_, fun p h1 h2 => ?_, (swp_len _ _ _).trans h.len, (swp_perm _ _ _ (by omega) (by omega)).trans h.perm⟩
  · rw [g]
    by_cases e : t = i
    · subst e; rw [if_neg (by omega), if_pos rfl]; exact h.out _ (by omega) (by omega)
    · rw [if_neg (by omega), if_neg (by omega)]; exact h.one t (by omega)
  · rw [g]
    by_cases e : t = i
    · subst e; rw [if_pos rfl]; exact h.out _ (by omega) (by omega)
    · rw [if_neg (by omega), if_neg (by omega)]; exact h.two t (by omega)
  · rw [g, if_neg (by omega), if_neg (by omega)]; exact h.out p (by omega) (by omega)

/-- The place that a rotation brings to p. -/
def rot (d : List Int) (a m b p : Nat) : Int := if p < a + (b - m) then gt d (p + (m - a)) else gt d (p - (b - m))
/-- A rotation under way: i places ahead of m and j behind it are still to be turned. -/
structure RotAt (a m b i j : Nat) (d d' : List Int) : Prop where
  i1 : 1 ≤ i
  j1 : 1 ≤ j
  ia : a + i ≤ m
  jb : m + j ≤ b
  done : ∀ p, a ≤ p → p < b → (p < m - i ∨ m + j ≤ p) → gt d' p = rot d a m b p
  back : ∀ q, m ≤ q → q < m + j → gt d' q = rot d a m b (q - i)
  fore : ∀ q, m - i ≤ q → q < m → gt d' q = rot d a m b (q + j)
  out : ∀ p, (p < a ∨ b ≤ p) → gt d' p = gt d p
  len : d'.length = d.length
  perm : d'.Perm d
theorem RotAt.start {a m b : Nat} {d : List Int} (h1 : a < m) (h2 : m < b) : RotAt a m b (m - a) (b - m) d d := by
  refine ⟨by omega, by omega, by omega, by omega, fun p h1 h2 h3 => by omega, fun q q1 q2 => ?_, fun q q1 q2 => ?_, fun _ _ => rfl, rfl, List.Perm.refl _⟩
  · unfold rot; rw [if_pos (by omega)]; congr 1; omega
  · unfold rot; rw [if_neg (by omega)]; congr 1; omega
theorem RotAt.fst {a m b i j : Nat} {d d1 d2 : List Int} (h : RotAt a m b i j d d1) (hij : j < i) (hs : Swd (m - i) m j d1 d2) : RotAt a m b (i - j) j d d2 := by
  have ⟨i1, j1, ia, jb, done, back, fore, out, len, perm⟩ := h
  refine ⟨by omega, by omega, by omega, jb, fun p p1 p2 p3 => ?_, fun q q1 q2 => ?_, fun q q1 q2 => ?_, fun p hp => ?_, hs.len.trans len, hs.perm.trans perm⟩
  · by_cases hp : m - i ≤ p ∧ p < m - i + j
    · have e := hs.one (p - (m - i)) (by omega)
      rw [show m - i + (p - (m - i)) = p by omega] at e
      rw [e, back _ (by omega) (by omega)]; congr 1; omega
    · rw [hs.out p (by omega) (by omega)]; exact done p p1 p2 (by omega)
  · have e := hs.two (q - m) (by omega)
    rw [show m + (q - m) = q by omega] at e
    rw [e, fore _ (by omega) (by omega)]; congr 1; omega
  · rw [hs.out q (by omega) (by omega)]; exact fore q (by omega) (by omega)
  · rw [hs.out p (by omega) (by omega)]; exact out p hp
theorem RotAt.snd {a m b i j : Nat} {d d1 d2 : List Int} (h : RotAt a m b i j d d1) (hij : i < j) (hs : Swd (m - i) (m + j - i) i d1 d2) : RotAt a m b i (j - i) d d2 := by
  have ⟨i1, j1, ia, jb, done, back, fore, out, len, perm⟩ := h
  refine ⟨by omega, by omega, by omega, by omega, fun p p1 p2 p3 => ?_, fun q q1 q2 => ?_, fun q q1 q2 => ?_, fun p hp => ?_, hs.len.trans len, hs.perm.trans perm⟩
  · by_cases hp : m + j - i ≤ p ∧ p < m + j
    · have e := hs.two (p - (m + j - i)) (by omega)
      rw [show m + j - i + (p - (m + j - i)) = p by omega] at e
      rw [e, fore _ (by omega) (by omega)]; congr 1; omega
    · rw [hs.out p (by omega) (by omega)]; exact done p p1 p2 (by omega)
  · rw [hs.out q (by omega) (by omega)]; exact back q (by omega) (by omega)
  · have e := hs.one (q - (m - i)) (by omega)
    rw [show m - i + (q - (m - i)) = q by omega] at e
    rw [e, back _ (by omega) (by omega)]; congr 1; omega
  · rw [hs.out p (by omega) (by omega)]; exact out p hp
/-- A rotation. -/
structure Rotd (a m b : Nat) (d d' : List Int) : Prop where
  is : ∀ p, a ≤ p → p < b → gt d' p = rot d a m b p
  out : ∀ p, (p < a ∨ b ≤ p) → gt d' p = gt d p
  len : d'.length = d.length
  perm : d'.Perm d
theorem RotAt.last {a m b i : Nat} {d d1 d2 : List Int} (h : RotAt a m b i i d d1) (hs : Swd (m - i) m i d1 d2) : Rotd a m b d d2 := by
  have ⟨i1, j1, ia, jb, done, back, fore, out, len, perm⟩ := h
  refine ⟨fun p p1 p2 => ?_, fun p hp => ?_, hs.len.trans len, hs.perm.trans perm⟩
  · by_cases hp : m - i ≤ p ∧ p < m
    · have e := hs.one (p - (m - i)) (by omega)
      rw [show m - i + (p - (m - i)) = p by omega] at e
      rw [e, back _ (by omega) (by omega)]; congr 1; omega
    · by_cases hp2 : m ≤ p ∧ p < m + i
      · have e := hs.two (p - m) (by omega)
        rw [show m + (p - m) = p by omega] at e
        rw [e, fore _ (by omega) (by omega)]; congr 1; omega
      · rw [hs.out p (by omega) (by omega)]; exact done p p1 p2 (by omega)
  · rw [hs.out p (by omega) (by omega)]; exact out p hp
theorem Rotd.pin {a m b : Nat} {d d' : List Int} (h : Rotd a m b d d') (h1 : a ≤ m) (h2 : m ≤ b) : PIn a b d d' :=
  ⟨h.len, h.out, fun p p1 p2 => by
    rw [h.is p p1 p2]; unfold rot
    by_cases e : p < a + (b - m)
    · exact ⟨p + (m - a), by omega, by omega, if_pos e⟩
    · exact ⟨p - (b - m), by omega, by omega, if_neg e⟩, h.perm⟩

/-- The order: greater keys ahead; of one key the lesser number. -/
def Rk (f : Int → Int) (x y : Int) : Prop := f y < f x ∨ (f x = f y ∧ x < y)
theorem Rk.trans {f : Int → Int} {x y z : Int} (h1 : Rk f x y) (h2 : Rk f y z) : Rk f x z := by unfold Rk at *; omega
def Srt (f : Int → Int) (a b : Nat) (d : List Int) : Prop := ∀ p q, a ≤ p → p < q → q < b → Rk f (gt d p) (gt d q)
/-- Whatever stands at a .. m is less than whatever stands at m .. b. -/
def Crs (a m b : Nat) (d : List Int) : Prop := ∀ p q, a ≤ p → p < m → m ≤ q → q < b → gt d p < gt d q
theorem Srt.sub {f : Int → Int} {a b a' b' : Nat} {d : List Int} (h : Srt f a b d) (h1 : a ≤ a') (h2 : b' ≤ b) : Srt f a' b' d := fun p q p1 p2 p3 => h p q (by omega) p2 (by omega)
theorem Srt.same {f : Int → Int} {a b : Nat} {d d' : List Int} (h : Srt f a b d) (he : ∀ p, a ≤ p → p < b → gt d' p = gt d p) : Srt f a b d' := fun p q p1 p2 p3 => by
  rw [he p p1 (by omega), he q (by omega) p3]; exact h p q p1 p2 p3
theorem Srt.one {f : Int → Int} {a b : Nat} {d : List Int} (h : b ≤ a + 1) : Srt f a b d := fun p q p1 p2 p3 => by omega
end Go.Proofs.Ytjimahagfkpacaa
