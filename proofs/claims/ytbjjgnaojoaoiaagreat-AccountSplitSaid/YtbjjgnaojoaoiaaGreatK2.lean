/- Sorting in place, in plain words: exchange, exchange of ranges, rotation, and the order by a key and by place. -/

namespace Go.Proofs.YtbjjgnaojoaoiaaGreat
set_option linter.unusedVariables false
set_option linter.unusedSimpArgs false

abbrev gt (d : List Int) (p : Nat) : Int := d.getD p 0
def swp (d : List Int) (i j : Nat) : List Int := (d.set i (gt d j)).set j (gt d i)
theorem gt_set (d : List Int) (i : Nat) (v : Int) (p : Nat) (hi : i < d.length) : gt (d.set i v) p = if p = i then v else gt d p := by
  unfold gt
  rw [List.getD_eq_getElem?_getD, List.getElem?_set, List.getD_eq_getElem?_getD]
  by_cases h : p = i
  · subst h; simp [hi]
  · rw [if_neg (by omega), if_neg h]
theorem swp_len (d : List Int) (i j : Nat) : (swp d i j).length = d.length := by simp [swp]
theorem gt_swp (d : List Int) (i j p : Nat) (hi : i < d.length) (hj : j < d.length) : gt (swp d i j) p = if p = j then gt d i else if p = i then gt d j else gt d p := by
  unfold swp
  rw [gt_set _ _ _ _ (by simpa using hj), gt_set _ _ _ _ hi]
theorem gt_eq (d : List Int) (i : Nat) (hi : i < d.length) : gt d i = d[i] := by simp [gt, hi]
theorem swp_perm (d : List Int) (i j : Nat) (hi : i < d.length) (hj : j < d.length) : (swp d i j).Perm d := by
  rw [List.perm_iff_count]
  intro x
  unfold swp
  rw [List.count_set (by simpa using hj), List.count_set hi, List.getElem_set]
  have e1 := gt_eq d i hi
  have e2 := gt_eq d j hj
  have c1 : (d[i] == x) = true → 1 ≤ d.count x := fun h => List.one_le_count_iff.2 (by rw [← beq_iff_eq.1 h]; exact List.getElem_mem hi)
  by_cases hij : i = j
  · subst hij
    simp only [if_true, e1]
    by_cases h1 : (d[i] == x) = true
    · have := c1 h1; simp [h1]; omega
    · simp [h1]
  · simp only [hij, if_false, e1, e2]
    by_cases h1 : (d[i] == x) = true <;> by_cases h2 : (d[j] == x) = true
    all_goals simp [h1, h2]
    · have := c1 h1; omega
    · have := c1 h1; omega
/-- Only places lo .. hi have turned, among themselves. -/
structure PIn (lo hi : Nat) (d d' : List Int) : Prop where
  len : d'.length = d.length
  out : ∀ p, (p < lo ∨ hi ≤ p) → gt d' p = gt d p
  mem : ∀ p, lo ≤ p → p < hi → ∃ q, lo ≤ q ∧ q < hi ∧ gt d' p = gt d q
  perm : d'.Perm d
theorem PIn.refl (lo hi : Nat) (d : List Int) : PIn lo hi d d := ⟨rfl, fun _ _ => rfl, fun p h1 h2 => ⟨p, h1, h2, rfl⟩, List.Perm.refl _⟩
theorem PIn.trans {lo hi : Nat} {a b c : List Int} (h1 : PIn lo hi a b) (h2 : PIn lo hi b c) : PIn lo hi a c :=
  ⟨h2.len.trans h1.len, fun p hp => (h2.out p hp).trans (h1.out p hp), fun p hp hq => by
    obtain ⟨q, q1, q2, e⟩ := h2.mem p hp hq
    obtain ⟨r, r1, r2, e'⟩ := h1.mem q q1 q2
    exact ⟨r, r1, r2, e.trans e'⟩, h2.perm.trans h1.perm⟩
theorem PIn.wide {lo hi lo' hi' : Nat} {a b : List Int} (h : PIn lo hi a b) (h1 : lo' ≤ lo) (h2 : hi ≤ hi') : PIn lo' hi' a b :=
  ⟨h.len, fun p hp => h.out p (by omega), fun p hp hq => by
    by_cases hin : lo ≤ p ∧ p < hi
    · obtain ⟨q, q1, q2, e⟩ := h.mem p hin.1 hin.2
      exact ⟨q, by omega, by omega, e⟩
    · exact ⟨p, hp, hq, h.out p (by omega)⟩, h.perm⟩
theorem PIn.swp {lo hi i j : Nat} {d : List Int} (hi1 : lo ≤ i) (hi2 : i < hi) (hj1 : lo ≤ j) (hj2 : j < hi) (hl : hi ≤ d.length) : PIn lo hi d (swp d i j) :=
  ⟨swp_len d i j, fun p hp => by rw [gt_swp _ _ _ _ (by omega) (by omega), if_neg (by omega), if_neg (by omega)], fun p h1 h2 => by
    rw [gt_swp _ _ _ _ (by omega) (by omega)]
    by_cases e1 : p = j
    · exact ⟨i, hi1, hi2, by rw [if_pos e1]⟩
    · by_cases e2 : p = i
      · exact ⟨j, hj1, hj2, by rw [if_neg e1, if_pos e2]⟩
      · exact ⟨p, h1, h2, by rw [if_neg e1, if_neg e2]⟩, swp_perm d i j (by omega) (by omega)⟩

/-- i of n exchanges of the range at a with that at b are done. -/
structure Swd (a b i : Nat) (d d' : List Int) : Prop where
  one : ∀ t, t < i → gt d' (a + t) = gt d (b + t)
  two : ∀ t, t < i → gt d' (b + t) = gt d (a + t)
  out : ∀ p, (p < a ∨ a + i ≤ p) → (p < b ∨ b + i ≤ p) → gt d' p = gt d p
  len : d'.length = d.length
  perm : d'.Perm d
theorem Swd.refl (a b : Nat) (d : List Int) : Swd a b 0 d d := ⟨fun t h => by omega, fun t h => by omega, fun _ _ _ => rfl, rfl, List.Perm.refl _⟩
theorem Swd.step {a b i : Nat} {d d' : List Int} (h : Swd a b i d d') (hab : a + i < b) (hl : b + i < d.length) : Swd a b (i + 1) d (swp d' (a + i) (b + i)) := by
  have hl' := h.len
  have g := fun p => gt_swp d' (a + i) (b + i) p (by omega) (by omega)
  refine ⟨fun t ht => ?_, fun t ht => ?_, fun p h1 h2 => ?_, (swp_len _ _ _).trans h.len, (swp_perm _ _ _ (by omega) (by omega)).trans h.perm⟩
  · rw [g]
    by_cases e : t = i
    · subst e; rw [if_neg (by omega), if_pos rfl]; exact h.out _ (by omega) (by omega)
    · rw [if_neg (by omega), if_neg (by omega)]; exact h.one t (by omega)
  · rw [g]
    by_cases e : t = i
    · subst e; rw [if_pos rfl]; exact h.out _ (by omega) (by omega)
    · rw [if_neg (by omega), if_neg (by omega)]; exact h.two t (by omega)
  · rw [g, if_neg (by omega), if_neg (by omega)]; exact h.out p (by omega) (by omega)

/-- The place that a rotation brings to p. -/
def rot (d : List Int) (a m b p : Nat) : Int := if p < a + (b - m) then gt d (p + (m - a)) else gt d (p - (b - m))
/-- A rotation under way: i places ahead of m and j behind it are still to be turned. -/
structure RotAt (a m b i j : Nat) (d d' : List Int) : Prop where
  i1 : 1 ≤ i
  j1 : 1 ≤ j
  ia : a + i ≤ m
  jb : m + j ≤ b
  done : ∀ p, a ≤ p → p < b → (p < m - i ∨ m + j ≤ p) → gt d' p = rot d a m b p
  back : ∀ q, m ≤ q → q < m + j → gt d' q = rot d a m b (q - i)
  fore : ∀ q, m - i ≤ q → q < m → gt d' q = rot d a m b (q + j)
  out : ∀ p, (p < a ∨ b ≤ p) → gt d' p = gt d p
  len : d'.length = d.length
  perm : d'.Perm d
theorem RotAt.start {a m b : Nat} {d : List Int} (h1 : a < m) (h2 : m < b) : RotAt a m b (m - a) (b - m) d d := by
  refine ⟨by omega, by omega, by omega, by omega, fun p h1 h2 h3 => by omega, fun q q1 q2 => ?_, fun q q1 q2 => ?_, fun _ _ => rfl, rfl, List.Perm.refl _⟩
  · unfold rot; rw [if_pos (by omega)]; congr 1; omega
  · unfold rot; rw [if_neg (by omega)]; congr 1; omega
theorem RotAt.fst {a m b i j : Nat} {d d1 d2 : List Int} (h : RotAt a m b i j d d1) (hij : j < i) (hs : Swd (m - i) m j d1 d2) : RotAt a m b (i - j) j d d2 := by
  have ⟨i1, j1, ia, jb, done, back, fore, out, len, perm⟩ := h
  refine ⟨by omega, by omega, by omega, jb, fun p p1 p2 p3 => ?_, fun q q1 q2 => ?_, fun q q1 q2 => ?_, fun p hp => ?_, hs.len.trans len, hs.perm.trans perm⟩
  · by_cases hp : m - i ≤ p ∧ p < m - i + j
    · have e := hs.one (p - (m - i)) (by omega)
      rw [show m - i + (p - (m - i)) = p by omega] at e
      rw [e, back _ (by omega) (by omega)]; congr 1; omega
    · rw [hs.out p (by omega) (by omega)]; exact done p p1 p2 (by omega)
  · have e := hs.two (q - m) (by omega)
    rw [show m + (q - m) = q by omega] at e
    rw [e, fore _ (by omega) (by omega)]; congr 1; omega
  · rw [hs.out q (by omega) (by omega)]; exact fore q (by omega) (by omega)
  · rw [hs.out p (by omega) (by omega)]; exact out p hp
theorem RotAt.snd {a m b i j : Nat} {d d1 d2 : List Int} (h : RotAt a m b i j d d1) (hij : i < j) (hs : Swd (m - i) (m + j - i) i d1 d2) : RotAt a m b i (j - i) d d2 := by
  have ⟨i1, j1, ia, jb, done, back, fore, out, len, perm⟩ := h
  refine ⟨by omega, by omega, by omega, by omega, fun p p1 p2 p3 => ?_, fun q q1 q2 => ?_, fun q q1 q2 => ?_, fun p hp => ?_, hs.len.trans len, hs.perm.trans perm⟩
  · by_cases hp : m + j - i ≤ p ∧ p < m + j
    · have e := hs.two (p - (m + j - i)) (by omega)
      rw [show m + j - i + (p - (m + j - i)) = p by omega] at e
      rw [e, fore _ (by omega) (by omega)]; congr 1; omega
    · rw [hs.out p (by omega) (by omega)]; exact done p p1 p2 (by omega)
  · rw [hs.out q (by omega) (by omega)]; exact back q (by omega) (by omega)
  · have e := hs.one (q - (m - i)) (by omega)
    rw [show m - i + (q - (m - i)) = q by omega] at e
    rw [e, back _ (by omega) (by omega)]; congr 1; omega
  · rw [hs.out p (by omega) (by omega)]; exact out p hp
/-- A rotation. -/
structure Rotd (a m b : Nat) (d d' : List Int) : Prop where
  is : ∀ p, a ≤ p → p < b → gt d' p = rot d a m b p
  out : ∀ p, (p < a ∨ b ≤ p) → gt d' p = gt d p
  len : d'.length = d.length
  perm : d'.Perm d
theorem RotAt.last {a m b i : Nat} {d d1 d2 : List Int} (h : RotAt a m b i i d d1) (hs : Swd (m - i) m i d1 d2) : Rotd a m b d d2 := by
  have ⟨i1, j1, ia, jb, done, back, fore, out, len, perm⟩ := h
  refine ⟨fun p p1 p2 => ?_, fun p hp => ?_, hs.len.trans len, hs.perm.trans perm⟩
  · by_cases hp : m - i ≤ p ∧ p < m
    · have e := hs.one (p - (m - i)) (by omega)
      rw [show m - i + (p - (m - i)) = p by omega] at e
      rw [e, back _ (by omega) (by omega)]; congr 1; omega
    · by_cases hp2 : m ≤ p ∧ p < m + i
      · have e := hs.two (p - m) (by omega)
        rw [show m + (p - m) = p by omega] at e
        rw [e, fore _ (by omega) (by omega)]; congr 1; omega
      · rw [hs.out p (by omega) (by omega)]; exact done p p1 p2 (by omega)
  · rw [hs.out p (by omega) (by omega)]; exact out p hp
theorem Rotd.pin {a m b : Nat} {d d' : List Int} (h : Rotd a m b d d') (h1 : a ≤ m) (h2 : m ≤ b) : PIn a b d d' :=
  ⟨h.len, h.out, fun p p1 p2 => by
    rw [h.is p p1 p2]; unfold rot
    by_cases e : p < a + (b - m)
    · exact ⟨p + (m - a), by omega, by omega, if_pos e⟩
    · exact ⟨p - (b - m), by omega, by omega, if_neg e⟩, h.perm⟩

/-- The order: greater keys ahead; of one key the lesser number. -/
def Rk (f : Int → Int) (x y : Int) : Prop := f y < f x ∨ (f x = f y ∧ x < y)
theorem Rk.trans {f : Int → Int} {x y z : Int} (h1 : Rk f x y) (h2 : Rk f y z) : Rk f x z := by unfold Rk at *; omega
def Srt (f : Int → Int) (a b : Nat) (d : List Int) : Prop := ∀ p q, a ≤ p → p < q → q < b → Rk f (gt d p) (gt d q)
/-- Whatever stands at a .. m is less than whatever stands at m .. b. -/
def Crs (a m b : Nat) (d : List Int) : Prop := ∀ p q, a ≤ p → p < m → m ≤ q → q < b → gt d p < gt d q
theorem Srt.sub {f : Int → Int} {a b a' b' : Nat} {d : List Int} (h : Srt f a b d) (h1 : a ≤ a') (h2 : b' ≤ b) : Srt f a' b' d := fun p q p1 p2 p3 => h p q (by omega) p2 (by omega)
theorem Srt.same {f : Int → Int} {a b : Nat} {d d' : List Int} (h : Srt f a b d) (he : ∀ p, a ≤ p → p < b → gt d' p = gt d p) : Srt f a b d' := fun p q p1 p2 p3 => by
  rw [he p p1 (by omega), he q (by omega) p3]; exact h p q p1 p2 p3
theorem Srt.one {f : Int → Int} {a b : Nat} {d : List Int} (h : b ≤ a + 1) : Srt f a b d := fun p q p1 p2 p3 => by omega
end Go.Proofs.YtbjjgnaojoaoiaaGreat
/- Merging in place, and insertion, in plain words. -/
namespace Go.Proofs.YtbjjgnaojoaoiaaGreat
set_option linter.unusedVariables false
set_option linter.unusedSimpArgs false

/-- A search by halves: nothing ahead of s is, whatever is at r or behind is. -/
def Bse (lo hi : Nat) (C : Nat → Prop) (s r : Nat) : Prop := lo ≤ s ∧ s ≤ r ∧ r ≤ hi ∧ (s = lo ∨ ¬ C (s - 1)) ∧ (r = hi ∨ C r)
theorem Bse.start {lo hi : Nat} {C : Nat → Prop} (h : lo ≤ hi) : Bse lo hi C lo hi := ⟨Nat.le_refl _, h, Nat.le_refl _, .inl rfl, .inl rfl⟩
theorem Bse.yes {lo hi : Nat} {C : Nat → Prop} {s r : Nat} (h : Bse lo hi C s r) (hlt : s < r) (hc : C ((s + r) / 2)) : Bse lo hi C s ((s + r) / 2) :=
  ⟨h.1, by omega, by have := h.2.2.1; omega, h.2.2.2.1, .inr hc⟩
theorem Bse.no {lo hi : Nat} {C : Nat → Prop} {s r : Nat} (h : Bse lo hi C s r) (hlt : s < r) (hc : ¬ C ((s + r) / 2)) : Bse lo hi C ((s + r) / 2 + 1) r :=
  ⟨by have := h.1; omega, by omega, h.2.2.1, .inr hc, h.2.2.2.2⟩

/-- What stands behind the turning of start .. e about m. -/
structure Halves (f : Int → Int) (a start mid e b : Nat) (d : List Int) : Prop where
  s1 : Srt f a start d
  s2 : Srt f start mid d
  c1 : Crs a start mid d
  s3 : Srt f mid e d
  s4 : Srt f e b d
  c2 : Crs mid e b d
  x : ∀ p q, a ≤ p → p < mid → mid ≤ q → q < b → Rk f (gt d p) (gt d q)
theorem halves {f : Int → Int} {a m b start mid e : Nat} {d d' : List Int} (hs : Srt f a m d) (ht : Srt f m b d) (hc : Crs a m b d) (h1 : a ≤ start) (h2 : start ≤ m) (h3 : m ≤ e) (h4 : e ≤ b) (h5 : start + e = mid + m)
    (hl : start = a ∨ e = b ∨ ¬ f (gt d (start - 1)) < f (gt d e)) (hh : start = m ∨ e = m ∨ f (gt d start) < f (gt d (e - 1)))
    (hd : ∀ p, start ≤ p → p < e → gt d' p = rot d start m e p) (ho : ∀ p, (p < start ∨ e ≤ p) → gt d' p = gt d p) : Halves f a start mid e b d' := by
  have g1 : ∀ p, p < start → gt d' p = gt d p := fun p h => ho p (.inl h)
  have g2 : ∀ p, start ≤ p → p < mid → gt d' p = gt d (p + (m - start)) := fun p p1 p2 => by rw [hd p p1 (by omega)]; unfold rot; rw [if_pos (by omega)]
  have g3 : ∀ p, mid ≤ p → p < e → gt d' p = gt d (p - (e - m)) := fun p p1 p2 => by rw [hd p (by omega) p2]; unfold rot; rw [if_neg (by omega)]
  have g4 : ∀ p, e ≤ p → gt d' p = gt d p := fun p h => ho p (.inr h)
  have X1 : ∀ i j, a ≤ i → i < start → e ≤ j → j < b → Rk f (gt d i) (gt d j) := fun i j i1 i2 j1 j2 => by
    have hlast : Rk f (gt d (start - 1)) (gt d e) := by
      have hx := hc (start - 1) e (by omega) (by omega) (by omega) (by omega)
      rcases hl with h | h | h
      · omega
      · omega
      · unfold Rk; omega
    have l1 : i = start - 1 ∨ Rk f (gt d i) (gt d (start - 1)) := by
      by_cases h : i = start - 1
      · exact .inl h
      · exact .inr (hs i (start - 1) i1 (by omega) (by omega))
    have l2 : j = e ∨ Rk f (gt d e) (gt d j) := by
      by_cases h : j = e
      · exact .inl h
      · exact .inr (ht e j h3 (by omega) j2)
    rcases l1 with rfl | l1 <;> rcases l2 with rfl | l2
    · exact hlast
    · exact hlast.trans l2
    · exact l1.trans hlast
    · exact (l1.trans hlast).trans l2
  have X2 : ∀ j i, m ≤ j → j < e → start ≤ i → i < m → Rk f (gt d j) (gt d i) := fun j i j1 j2 i1 i2 => by
    have hfst : Rk f (gt d (e - 1)) (gt d start) := by
      rcases hh with h | h | h
      · omega
      · omega
      · exact .inl h
    have l1 : j = e - 1 ∨ Rk f (gt d j) (gt d (e - 1)) := by
      by_cases h : j = e - 1
      · exact .inl h
      · exact .inr (ht j (e - 1) j1 (by omega) (by omega))
    have l2 : i = start ∨ Rk f (gt d start) (gt d i) := by
      by_cases h : i = start
      · exact .inl h
      · exact .inr (hs start i h1 (by omega) i2)
    rcases l1 with rfl | l1 <;> rcases l2 with rfl | l2
    · exact hfst
    · exact hfst.trans l2
    · exact l1.trans hfst
    · exact (l1.trans hfst).trans l2
  refine ⟨fun p q p1 p2 p3 => ?_, fun p q p1 p2 p3 => ?_, fun p q p1 p2 p3 p4 => ?_, fun p q p1 p2 p3 => ?_, fun p q p1 p2 p3 => ?_, fun p q p1 p2 p3 p4 => ?_, fun p q p1 p2 p3 p4 => ?_⟩
  · rw [g1 p (by omega), g1 q (by omega)]; exact hs p q p1 p2 (by omega)
  · rw [g2 p (by omega) (by omega), g2 q (by omega) (by omega)]; exact ht _ _ (by omega) (by omega) (by omega)
  · rw [g1 p (by omega), g2 q (by omega) (by omega)]; exact hc _ _ (by omega) (by omega) (by omega) (by omega)
  · rw [g3 p (by omega) (by omega), g3 q (by omega) (by omega)]; exact hs _ _ (by omega) (by omega) (by omega)
  · rw [g4 p (by omega), g4 q (by omega)]; exact ht _ _ (by omega) (by omega) (by omega)
  · rw [g3 p (by omega) (by omega), g4 q (by omega)]; exact hc _ _ (by omega) (by omega) (by omega) (by omega)
  · by_cases hp : p < start <;> by_cases hq : q < e
    · rw [g1 p hp, g3 q p3 hq]; exact hs _ _ (by omega) (by omega) (by omega)
    · rw [g1 p hp, g4 q (by omega)]; exact X1 _ _ (by omega) (by omega) (by omega) (by omega)
    · rw [g2 p (by omega) (by omega), g3 q p3 hq]; exact X2 _ _ (by omega) (by omega) (by omega) (by omega)
    · rw [g2 p (by omega) (by omega), g4 q (by omega)]; exact ht _ _ (by omega) (by omega) (by omega)
theorem Crs.pin {a m b : Nat} {d d' : List Int} (h : Crs a m b d) (h1 : PIn a m d d') : Crs a m b d' := fun p q p1 p2 p3 p4 => by
  obtain ⟨r, r1, r2, e⟩ := h1.mem p p1 p2
  rw [e, h1.out q (by omega)]; exact h r q r1 r2 p3 p4
theorem halves_done {f : Int → Int} {a mid b : Nat} {d d2 d3 : List Int} (hm : a ≤ mid) (hb : mid ≤ b) (hx : ∀ p q, a ≤ p → p < mid → mid ≤ q → q < b → Rk f (gt d p) (gt d q)) (h1 : PIn a mid d d2) (s1 : Srt f a mid d2) (h2 : PIn mid b d2 d3) (s2 : Srt f mid b d3) :
    Srt f a b d3 := fun p q p1 p2 p3 => by
  by_cases hq : q < mid
  · rw [h2.out p (by omega), h2.out q (by omega)]; exact s1 p q p1 p2 hq
  · by_cases hp : mid ≤ p
    · exact s2 p q hp p2 p3
    · obtain ⟨r, r1, r2, e⟩ := h1.mem p p1 (by omega)
      obtain ⟨t, t1, t2, e2⟩ := h2.mem q (by omega) p3
      rw [h2.out p (by omega), e, e2, h1.out t (by omega)]
      exact hx r t r1 r2 t1 t2

/-- The first one on its way up: at k, of a .. -/
structure Up (a k : Nat) (d d' : List Int) : Prop where
  ahead : ∀ p, a ≤ p → p < k → gt d' p = gt d (p + 1)
  here : gt d' k = gt d a
  out : ∀ p, (p < a ∨ k < p) → gt d' p = gt d p
  len : d'.length = d.length
  perm : d'.Perm d
theorem Up.start (a : Nat) (d : List Int) : Up a a d d := ⟨fun p h1 h2 => by omega, rfl, fun _ _ => rfl, rfl, List.Perm.refl _⟩
theorem Up.step {a k : Nat} {d d' : List Int} (h : Up a k d d') (hak : a ≤ k) (hl : k + 1 < d.length) : Up a (k + 1) d (swp d' k (k + 1)) := by
  have hl' := h.len
  have g := fun p => gt_swp d' k (k + 1) p (by omega) (by omega)
  refine ⟨fun p p1 p2 => ?_, ?_, fun p hp => ?_, (swp_len _ _ _).trans h.len, (swp_perm _ _ _ (by omega) (by omega)).trans h.perm⟩
  · rw [g, if_neg (by omega)]
    by_cases e : p = k
    · subst e; rw [if_pos rfl]; exact h.out _ (by omega)
    · rw [if_neg e]; exact h.ahead p p1 (by omega)
  · rw [g, if_pos rfl]; exact h.here
  · rw [g, if_neg (by omega), if_neg (by omega)]; exact h.out p (by omega)
theorem Up.pin {a k : Nat} {d d' : List Int} (h : Up a k d d') (hak : a ≤ k) {b : Nat} (hb : k < b) : PIn a b d d' :=
  ⟨h.len, fun p hp => h.out p (by omega), fun p p1 p2 => by
    by_cases e1 : p < k
    · exact ⟨p + 1, by omega, by omega, h.ahead p p1 e1⟩
    · by_cases e2 : p = k
      · subst e2; exact ⟨a, by omega, by omega, h.here⟩
      · exact ⟨p, p1, p2, h.out p (by omega)⟩, h.perm⟩
theorem Up.sorted {f : Int → Int} {a b i : Nat} {d d' : List Int} (ht : Srt f (a + 1) b d) (hc : Crs a (a + 1) b d) (hi : Bse (a + 1) b (fun h => ¬ f (gt d a) < f (gt d h)) i i) (h : Up a (i - 1) d d') : Srt f a b d' := by
  obtain ⟨b1, _, b3, b4, b5⟩ := hi
  have L : ∀ p, a + 1 ≤ p → p < i → Rk f (gt d p) (gt d a) := fun p p1 p2 => by
    have hl : Rk f (gt d (i - 1)) (gt d a) := by
      rcases b4 with h | h
      · omega
      · exact .inl (by omega)
    by_cases e : p = i - 1
    · subst e; exact hl
    · exact (ht p (i - 1) p1 (by omega) (by omega)).trans hl
  have H : ∀ p, i ≤ p → p < b → Rk f (gt d a) (gt d p) := fun p p1 p2 => by
    have hl : Rk f (gt d a) (gt d i) := by
      have hx := hc a i (by omega) (by omega) b1 (by omega)
      rcases b5 with h | h
      · omega
      · unfold Rk; omega
    by_cases e : p = i
    · subst e; exact hl
    · exact hl.trans (ht i p b1 (by omega) p2)
  intro p q p1 p2 p3
  by_cases hp : p < i - 1 <;> by_cases hq : q < i - 1
  · rw [h.ahead p p1 hp, h.ahead q (by omega) hq]; exact ht _ _ (by omega) (by omega) (by omega)
  · rw [h.ahead p p1 hp]
    by_cases e : q = i - 1
    · subst e; rw [h.here]; exact L _ (by omega) (by omega)
    · rw [h.out q (by omega)]; exact ht _ _ (by omega) (by omega) (by omega)
  · omega
  · by_cases e : p = i - 1
    · subst e; rw [h.here, h.out q (by omega)]; exact H _ (by omega) (by omega)
    · rw [h.out p (by omega), h.out q (by omega)]; exact ht _ _ (by omega) (by omega) (by omega)

/-- The last one on its way down: at k, from m. -/
structure Down (m k : Nat) (d d' : List Int) : Prop where
  behind : ∀ p, k < p → p ≤ m → gt d' p = gt d (p - 1)
  here : gt d' k = gt d m
  out : ∀ p, (p < k ∨ m < p) → gt d' p = gt d p
  len : d'.length = d.length
  perm : d'.Perm d
theorem Down.start (m : Nat) (d : List Int) : Down m m d d := ⟨fun p h1 h2 => by omega, rfl, fun _ _ => rfl, rfl, List.Perm.refl _⟩
theorem Down.step {m k : Nat} {d d' : List Int} (h : Down m (k + 1) d d') (hk : k + 1 ≤ m) (hl : m < d.length) : Down m k d (swp d' (k + 1) k) := by
  have hl' := h.len
  have g := fun p => gt_swp d' (k + 1) k p (by omega) (by omega)
  refine ⟨fun p p1 p2 => ?_, ?_, fun p hp => ?_, (swp_len _ _ _).trans h.len, (swp_perm _ _ _ (by omega) (by omega)).trans h.perm⟩
  · rw [g, if_neg (by omega)]
    by_cases e : p = k + 1
    · subst e; rw [if_pos rfl]; exact h.out _ (by omega)
    · rw [if_neg e]; exact h.behind p (by omega) p2
  · rw [g, if_pos rfl]; exact h.here
  · rw [g, if_neg (by omega), if_neg (by omega)]; exact h.out p (by omega)
theorem Down.pin {m k : Nat} {d d' : List Int} (h : Down m k d d') (hk : k ≤ m) {a b : Nat} (ha : a ≤ k) (hb : m < b) : PIn a b d d' :=
  ⟨h.len, fun p hp => h.out p (by omega), fun p p1 p2 => by
    by_cases e1 : k < p ∧ p ≤ m
    · exact ⟨p - 1, by omega, by omega, h.behind p e1.1 e1.2⟩
    · by_cases e2 : p = k
      · subst e2; exact ⟨m, by omega, by omega, h.here⟩
      · exact ⟨p, p1, p2, h.out p (by omega)⟩, h.perm⟩
theorem Down.sorted {f : Int → Int} {a m i : Nat} {d d' : List Int} (hs : Srt f a m d) (hc : Crs a m (m + 1) d) (hi : Bse a m (fun h => f (gt d h) < f (gt d m)) i i) (h : Down m i d d') : Srt f a (m + 1) d' := by
  obtain ⟨b1, _, b3, b4, b5⟩ := hi
  have L : ∀ p, a ≤ p → p < i → Rk f (gt d p) (gt d m) := fun p p1 p2 => by
    have hl : Rk f (gt d (i - 1)) (gt d m) := by
      have hx := hc (i - 1) m (by omega) (by omega) (by omega) (by omega)
      rcases b4 with h | h
      · omega
      · unfold Rk; omega
    by_cases e : p = i - 1
    · subst e; exact hl
    · exact (hs p (i - 1) p1 (by omega) (by omega)).trans hl
  have H : ∀ p, i ≤ p → p < m → Rk f (gt d m) (gt d p) := fun p p1 p2 => by
    have hl : Rk f (gt d m) (gt d i) := by
      rcases b5 with h | h
      · omega
      · exact .inl h
    by_cases e : p = i
    · subst e; exact hl
    · exact hl.trans (hs i p b1 (by omega) p2)
  intro p q p1 p2 p3
  by_cases hp : p < i
  · rw [h.out p (by omega)]
    by_cases hq : q < i
    · rw [h.out q (by omega)]; exact hs _ _ (by omega) (by omega) (by omega)
    · by_cases e : q = i
      · subst e; rw [h.here]; exact L _ (by omega) (by omega)
      · rw [h.behind q (by omega) (by omega)]; exact hs _ _ (by omega) (by omega) (by omega)
  · by_cases e : p = i
    · subst e; rw [h.here, h.behind q (by omega) (by omega)]; exact H _ (by omega) (by omega)
    · rw [h.behind p (by omega) (by omega), h.behind q (by omega) (by omega)]; exact hs _ _ (by omega) (by omega) (by omega)

/-- Insertion under way: all of a .. i but the one at j are sorted, it stands ahead of those behind it; it is the greatest of all. -/
structure Ins (f : Int → Int) (a i j : Nat) (d : List Int) : Prop where
  rest : ∀ p q, a ≤ p → p < q → q ≤ i → p ≠ j → q ≠ j → Rk f (gt d p) (gt d q)
  behind : ∀ q, j < q → q ≤ i → Rk f (gt d j) (gt d q)
  most : ∀ p, a ≤ p → p ≤ i → p ≠ j → gt d p < gt d j
theorem Ins.start {f : Int → Int} {a i : Nat} {d : List Int} (h : Srt f a i d) (hm : ∀ p, a ≤ p → p < i → gt d p < gt d i) : Ins f a i i d :=
  ⟨fun p q p1 p2 p3 p4 p5 => h p q p1 p2 (by omega), fun q h1 h2 => by omega, fun p p1 p2 p3 => hm p p1 (by omega)⟩
theorem Ins.step {f : Int → Int} {a i j : Nat} {d : List Int} (h : Ins f a i (j + 1) d) (haj : a ≤ j) (hji : j + 1 ≤ i) (hl : i < d.length) (hlt : f (gt d j) < f (gt d (j + 1))) : Ins f a i j (swp d (j + 1) j) := by
  have g := fun p => gt_swp d (j + 1) j p (by omega) (by omega)
  have gj : gt (swp d (j + 1) j) j = gt d (j + 1) := by rw [g, if_pos rfl]
  have gj1 : gt (swp d (j + 1) j) (j + 1) = gt d j := by rw [g, if_neg (by omega), if_pos rfl]
  have go : ∀ p, p ≠ j → p ≠ j + 1 → gt (swp d (j + 1) j) p = gt d p := fun p h1 h2 => by rw [g, if_neg h1, if_neg h2]
  refine ⟨fun p q p1 p2 p3 p4 p5 => ?_, fun q q1 q2 => ?_, fun p p1 p2 p3 => ?_⟩
  · by_cases e1 : p = j + 1
    · subst e1; rw [gj1, go q (by omega) (by omega)]; exact h.rest j q haj (by omega) p3 (by omega) (by omega)
    · rw [go p p4 e1]
      by_cases e2 : q = j + 1
      · subst e2; rw [gj1]; exact h.rest p j p1 (by omega) (by omega) (by omega) (by omega)
      · rw [go q p5 e2]; exact h.rest p q p1 p2 p3 e1 e2
  · rw [gj]
    by_cases e : q = j + 1
    · subst e; rw [gj1]; exact .inl hlt
    · rw [go q (by omega) e]; exact h.behind q (by omega) q2
  · rw [gj]
    by_cases e : p = j + 1
    · subst e; rw [gj1]; exact h.most j haj (by omega) (by omega)
    · rw [go p p3 e]; exact h.most p p1 p2 e
theorem Ins.stop {f : Int → Int} {a i j : Nat} {d : List Int} (h : Ins f a i j d) (haj : a ≤ j) (hji : j ≤ i) (hs : j = a ∨ ¬ f (gt d (j - 1)) < f (gt d j)) : Srt f a (i + 1) d := by
  intro p q p1 p2 p3
  by_cases e1 : p = j
  · subst e1; exact h.behind q p2 (by omega)
  · by_cases e2 : q = j
    · subst e2
      have hl : Rk f (gt d (q - 1)) (gt d q) := by
        have := h.most (q - 1) (by omega) (by omega) (by omega)
        rcases hs with h | h
        · omega
        · unfold Rk; omega
      by_cases e3 : p = q - 1
      · subst e3; exact hl
      · exact (h.rest p (q - 1) p1 (by omega) (by omega) e1 (by omega)).trans hl
    · exact h.rest p q p1 p2 (by omega) e1 e2
/-- Each place of a .. b holds a number of a .. b. -/
def Own (a b : Nat) (d : List Int) : Prop := ∀ p, a ≤ p → p < b → (a : Int) ≤ gt d p ∧ gt d p < b
theorem Own.pin {a b : Nat} {d d' : List Int} (h : Own a b d) (hp : PIn a b d d') : Own a b d' := fun p p1 p2 => by
  obtain ⟨q, q1, q2, e⟩ := hp.mem p p1 p2
  rw [e]; exact h q q1 q2
theorem Own.crs {a m b : Nat} {d : List Int} (h1 : Own a m d) (h2 : Own m b d) : Crs a m b d := fun p q p1 p2 q1 q2 => by
  have := h1 p p1 p2; have := h2 q q1 q2; omega
theorem Own.join {a m b : Nat} {d : List Int} (h1 : Own a m d) (h2 : Own m b d) (ha : a ≤ m) (hb : m ≤ b) : Own a b d := fun p p1 p2 => by
  by_cases e : p < m
  · have := h1 p p1 e; omega
  · have := h2 p (by omega) p2; omega
theorem Own.same {a b : Nat} {d d' : List Int} (h : Own a b d) (he : ∀ p, a ≤ p → p < b → gt d' p = gt d p) : Own a b d' := fun p p1 p2 => by rw [he p p1 p2]; exact h p p1 p2
end Go.Proofs.YtbjjgnaojoaoiaaGreat
/- Splitting an amount, in plain words: the quotients, what is left, who gets one more. -/
namespace Go.Proofs.YtbjjgnaojoaoiaaGreat
set_option linter.unusedVariables false
set_option linter.unusedSimpArgs false

def quoS (a T : Int) (ws : List Int) : List Int := ws.map fun w => a * w / T
def rstS (a T : Int) (ws : List Int) : List Int := ws.map fun w => a * w % T
theorem quoS_len (a T : Int) (ws : List Int) : (quoS a T ws).length = ws.length := by simp [quoS]
theorem rstS_len (a T : Int) (ws : List Int) : (rstS a T ws).length = ws.length := by simp [rstS]
def topS (q d : List Int) (k : Nat) : List Int := q.mapIdx fun i x => if (i : Int) ∈ d.take k then x + 1 else x
def markS (r d : List Int) (k : Nat) : List Int := r.mapIdx fun i x => if (i : Int) ∈ d.take k then -1 else x
theorem topS_len (q d : List Int) (k : Nat) : (topS q d k).length = q.length := by simp [topS]
theorem markS_len (r d : List Int) (k : Nat) : (markS r d k).length = r.length := by simp [markS]
theorem topS_zero (q d : List Int) : topS q d 0 = q := by
  apply List.ext_getElem (by simp [topS])
  intro i h1 h2; simp [topS]
theorem markS_zero (q d : List Int) : markS q d 0 = q := by
  apply List.ext_getElem (by simp [markS])
  intro i h1 h2; simp [markS]
theorem mem_take_succ {d : List Int} {k : Nat} (h : k < d.length) (x : Int) : x ∈ d.take (k + 1) ↔ x ∈ d.take k ∨ x = d[k] := by
  rw [List.take_succ_eq_append_getElem h, List.mem_append, List.mem_singleton]
theorem nodup_take {d : List Int} (hn : d.Nodup) {k : Nat} (h : k < d.length) : d[k] ∉ d.take k := by
  intro hm
  obtain ⟨j, hj, e⟩ := List.mem_iff_getElem.1 hm
  rw [List.getElem_take] at e
  have hj' : j < k := by simp at hj; omega
  exact List.pairwise_iff_getElem.1 hn j k (by omega) h hj' e
theorem topS_step {q d : List Int} (hn : d.Nodup) {k j : Nat} (h : k < d.length) (hj : d[k] = (j : Int)) (hjq : j < q.length) :
    topS q d (k + 1) = (topS q d k).set j ((topS q d k)[j]'(by rw [topS_len]; exact hjq) + 1) := by
  have hno := nodup_take hn h
  apply List.ext_getElem (by simp [topS])
  intro i h1 h2
  rw [List.getElem_set]
  simp only [topS, List.getElem_mapIdx, mem_take_succ h, hj]
  rw [hj] at hno
  by_cases e : j = i
  · subst e; simp [hno]
  · have : ¬ ((i : Int) = (j : Int)) := by omega
    simp [e, this]
theorem markS_step {q d : List Int} {k j : Nat} (h : k < d.length) (hj : d[k] = (j : Int)) (hjq : j < q.length) :
    markS q d (k + 1) = (markS q d k).set j (-1) := by
  apply List.ext_getElem (by simp [markS])
  intro i h1 h2
  rw [List.getElem_set]
  simp only [markS, List.getElem_mapIdx, mem_take_succ h, hj]
  by_cases e : j = i
  · subst e; simp
  · have : ¬ ((i : Int) = (j : Int)) := by omega
    simp [e, this]
theorem sum_set (l : List Int) (j : Nat) (h : j < l.length) (v : Int) : (l.set j v).sum = l.sum - l[j] + v := by
  induction l generalizing j with
  | nil => simp at h
  | cons x l ih =>
    cases j with
    | zero => simp; omega
    | succ j => simp only [List.set_cons_succ, List.sum_cons, List.getElem_cons_succ]; rw [ih j (by simpa using h)]; omega
/-- d names each of n places once. -/
def Pl (n : Nat) (d : List Int) : Prop := d.Perm ((List.range n).map fun (i : Nat) => (i : Int))
theorem Pl.len {n : Nat} {d : List Int} (h : Pl n d) : d.length = n := by have := h.length_eq; simpa using this
theorem Pl.nodup {n : Nat} {d : List Int} (h : Pl n d) : d.Nodup := by
  refine h.nodup_iff.2 ?_
  refine List.pairwise_iff_getElem.2 fun i j hi hj hij => ?_
  simp; omega
theorem Pl.at {n : Nat} {d : List Int} (h : Pl n d) {k : Nat} (hk : k < d.length) : ∃ j : Nat, d[k] = (j : Int) ∧ j < n := by
  have := h.mem_iff.1 (List.getElem_mem hk)
  obtain ⟨j, hj, e⟩ := List.mem_map.1 this
  exact ⟨j, e.symm, by simpa using hj⟩
theorem Pl.all {n : Nat} {d : List Int} (h : Pl n d) {j : Nat} (hj : j < n) : ∃ k, ∃ hk : k < d.length, d[k] = (j : Int) := by
  have : (j : Int) ∈ d := h.mem_iff.2 (List.mem_map.2 ⟨j, by simpa using hj, rfl⟩)
  exact List.mem_iff_getElem.1 this
theorem topS_sum {n : Nat} {q d : List Int} (h : Pl n d) (hq : q.length = n) : ∀ k, k ≤ n → (topS q d k).sum = q.sum + k
  | 0, _ => by rw [topS_zero]; simp
  | k + 1, hk => by
    have hl := h.len
    obtain ⟨j, e, hj⟩ := h.at (k := k) (by omega)
    rw [topS_step h.nodup (by omega) e (by omega), sum_set, topS_sum h hq k (by omega)]
    · omega
    · rw [topS_len]; omega
theorem sums {a T : Int} : ∀ ws : List Int, T * (quoS a T ws).sum + (rstS a T ws).sum = a * ws.sum
  | [] => by simp [quoS, rstS]
  | w :: ws => by
    have ih := sums (a := a) (T := T) ws
    have := Int.mul_ediv_add_emod (a * w) T
    simp only [quoS, rstS, List.map_cons, List.sum_cons] at ih ⊢
    rw [Int.mul_add, Int.mul_add]; omega
theorem sum_nonneg : ∀ {l : List Int}, (∀ x ∈ l, 0 ≤ x) → 0 ≤ l.sum
  | [], _ => by simp
  | x :: l, h => by have := sum_nonneg (l := l) (fun y hy => h y (by simp [hy])); have := h x (by simp); simp only [List.sum_cons]; omega
theorem sum_bound {T : Int} : ∀ {l : List Int}, (∀ x ∈ l, x ≤ T) → l.sum ≤ T * l.length
  | [], _ => by simp
  | x :: l, h => by
    have := sum_bound (l := l) (fun y hy => h y (by simp [hy])); have := h x (by simp)
    simp only [List.sum_cons, List.length_cons]
    have : T * ((l.length + 1 : Nat) : Int) = T * l.length + T := by rw [Int.natCast_add, Int.mul_add]; simp
    omega
/-- What is left, over T, of a less all quotients: no more than there are places. -/
theorem left_ex {a T : Int} {ws : List Int} (hT : 0 < T) (hs : ws.sum = T) (hn : 1 ≤ ws.length) : ∃ k : Nat, a - (quoS a T ws).sum = k ∧ k < ws.length := by
  have h1 := sums (a := a) (T := T) ws
  have h2 : 0 ≤ (rstS a T ws).sum := sum_nonneg (fun x hx => by obtain ⟨w, _, rfl⟩ := List.mem_map.1 hx; exact Int.emod_nonneg _ (by omega))
  have h3 : (rstS a T ws).sum ≤ (T - 1) * ((rstS a T ws).length : Int) := sum_bound (fun x hx => by obtain ⟨w, _, rfl⟩ := List.mem_map.1 hx; have := Int.emod_lt_of_pos (a * w) hT; omega)
  rw [rstS_len] at h3
  rw [hs] at h1
  have e : T * (a - (quoS a T ws).sum) = (rstS a T ws).sum := by rw [Int.mul_sub, Int.mul_comm T a]; omega
  have e0 : 0 ≤ a - (quoS a T ws).sum := by
    rcases Int.lt_or_le (a - (quoS a T ws).sum) 0 with h | h
    · have := Int.mul_neg_of_pos_of_neg hT h; omega
    · exact h
  have e1 : a - (quoS a T ws).sum < ws.length := by
    rcases Int.lt_or_le (a - (quoS a T ws).sum) ws.length with h | h
    · exact h
    · have h4 := Int.mul_le_mul_of_nonneg_left h (Int.le_of_lt hT)
      rw [e] at h4
      have h5 : (T - 1) * (ws.length : Int) = T * ws.length - ws.length := by rw [Int.sub_mul]; omega
      omega
  exact ⟨(a - (quoS a T ws).sum).toNat, by omega, by omega⟩
theorem prefix_sum {a T : Int} {ws : List Int} (hT : 0 < T) (hw : ∀ w ∈ ws, 0 ≤ w) (hs : ws.sum = T) (ha : -4611686018427387904 ≤ a ∧ a ≤ 4611686018427387904) (hn : ws.length ≤ 1000) (k : Nat) :
    -4611686018427389000 ≤ (quoS a T (ws.take k)).sum ∧ (quoS a T (ws.take k)).sum ≤ 4611686018427387904 := by
  have h1 := sums (a := a) (T := T) (ws.take k)
  have h2 : 0 ≤ (rstS a T (ws.take k)).sum := sum_nonneg (fun x hx => by obtain ⟨w, _, rfl⟩ := List.mem_map.1 hx; exact Int.emod_nonneg _ (by omega))
  have h3 : (rstS a T (ws.take k)).sum ≤ T * ((rstS a T (ws.take k)).length : Int) := sum_bound (fun x hx => by obtain ⟨w, _, rfl⟩ := List.mem_map.1 hx; have := Int.emod_lt_of_pos (a * w) hT; omega)
  have h4 : 0 ≤ (ws.take k).sum := sum_nonneg (fun x hx => hw x (List.mem_of_mem_take hx))
  have h5 : 0 ≤ (ws.drop k).sum := sum_nonneg (fun x hx => hw x (List.mem_of_mem_drop hx))
  have h6 : (ws.take k).sum + (ws.drop k).sum = T := by rw [← List.sum_append, List.take_append_drop, hs]
  have h7 : (rstS a T (ws.take k)).length ≤ 1000 := by rw [rstS_len, List.length_take]; omega
  generalize (quoS a T (ws.take k)).sum = Q at *
  generalize (rstS a T (ws.take k)).sum = R at *
  generalize (rstS a T (ws.take k)).length = n at *
  generalize (ws.take k).sum = S at *
  have h8 : T * (n : Int) ≤ T * 1000 := Int.mul_le_mul_of_nonneg_left (by omega) (by omega)
  constructor
  · rcases Int.lt_or_le Q (-4611686018427389000) with h | h
    · have : T * Q ≤ T * (-4611686018427389001) := Int.mul_le_mul_of_nonneg_left (by omega) (by omega)
      have e1 : -4611686018427387904 * S ≤ a * S := Int.mul_le_mul_of_nonneg_right ha.1 h4
      omega
    · exact h
  · rcases Int.lt_or_le 4611686018427387904 Q with h | h
    · have : T * 4611686018427387905 ≤ T * Q := Int.mul_le_mul_of_nonneg_left (by omega) (by omega)
      have e1 : a * S ≤ 4611686018427387904 * S := Int.mul_le_mul_of_nonneg_right ha.2 h4
      omega
    · exact h
theorem quo_bound {a T w : Int} (hT : 0 < T) (hw : 0 ≤ w) (hwT : w ≤ T) (ha : -4611686018427387904 ≤ a ∧ a ≤ 4611686018427387904) : -4611686018427387904 ≤ a * w / T ∧ a * w / T ≤ 4611686018427387904 := by
  have h1 : -4611686018427387904 * w ≤ a * w := Int.mul_le_mul_of_nonneg_right ha.1 hw
  have h2 : a * w ≤ 4611686018427387904 * w := Int.mul_le_mul_of_nonneg_right ha.2 hw
  constructor
  · rw [Int.le_ediv_iff_mul_le hT]; omega
  · have : a * w / T < 4611686018427387905 := by rw [Int.ediv_lt_iff_lt_mul hT]; omega
    omega
theorem le_sum {ws : List Int} (hw : ∀ w ∈ ws, 0 ≤ w) {w : Int} (h : w ∈ ws) : w ≤ ws.sum := by
  induction ws with
  | nil => cases h
  | cons x l ih =>
    have h0 : 0 ≤ l.sum := sum_nonneg (fun y hy => hw y (by simp [hy]))
    have hx := hw x (by simp)
    simp only [List.sum_cons]
    rcases List.mem_cons.1 h with rfl | h
    · omega
    · have := ih (fun y hy => hw y (by simp [hy])) h; omega

/-- The first one by the order among those of i places that are not marked; -1: all are. -/
def Best (r d : List Int) (k i : Nat) (b : Int) : Prop :=
  (b = -1 ∧ ∀ p : Nat, p < i → (p : Int) ∈ d.take k) ∨ (∃ j : Nat, b = j ∧ j < i ∧ (j : Int) ∉ d.take k ∧ ∀ p : Nat, p < i → p ≠ j → (p : Int) ∉ d.take k → gt r p < gt r j ∨ (gt r p = gt r j ∧ j < p))
theorem Best.start (r d : List Int) (k : Nat) : Best r d k 0 (-1) := .inl ⟨rfl, fun p hp => by omega⟩
theorem Best.marked {r d : List Int} {k i : Nat} {b : Int} (h : Best r d k i b) (hm : (i : Int) ∈ d.take k) : Best r d k (i + 1) b := by
  rcases h with ⟨rfl, h⟩ | ⟨j, rfl, h1, h2, h3⟩
  · exact .inl ⟨rfl, fun p hp => by by_cases e : p = i; · subst e; exact hm
                                    · exact h p (by omega)⟩
  · exact .inr ⟨j, rfl, by omega, h2, fun p hp hne hu => by
      by_cases e : p = i
      · subst e; exact absurd hm hu
      · exact h3 p (by omega) hne hu⟩
theorem Best.fresh {r d : List Int} {k i : Nat} {b : Int} (h : Best r d k i b) (hm : (i : Int) ∉ d.take k) (hb : b < 0 ∨ gt r b.toNat < gt r i) : Best r d k (i + 1) i := by
  rcases h with ⟨rfl, h⟩ | ⟨j, rfl, h1, h2, h3⟩
  · exact .inr ⟨i, rfl, by omega, hm, fun p hp hne hu => absurd (h p (by omega)) hu⟩
  · refine .inr ⟨i, rfl, by omega, hm, fun p hp hne hu => ?_⟩
    have hb' : gt r j < gt r i := by rcases hb with h | h; · omega
                                     · simpa using h
    by_cases e : p = j
    · subst e; exact .inl hb'
    · have := h3 p (by omega) e hu; omega
theorem Best.stays {r d : List Int} {k i : Nat} {b : Int} (h : Best r d k i b) (h0 : 0 ≤ b) (hb : ¬ gt r b.toNat < gt r i) : Best r d k (i + 1) b := by
  rcases h with ⟨rfl, h⟩ | ⟨j, rfl, h1, h2, h3⟩
  · omega
  · refine .inr ⟨j, rfl, by omega, h2, fun p hp hne hu => ?_⟩
    by_cases e : p = i
    · subst e; rw [Int.toNat_natCast] at hb; omega
    · exact h3 p (by omega) hne hu
theorem Best.is {r d : List Int} {n k : Nat} {b : Int} (h : Best r d k n b) (hp : Pl n d) (hs : Srt (fun x => gt r x.toNat) 0 n d) (hk : k < n) : b = gt d k := by
  have hl := hp.len
  have hno := nodup_take hp.nodup (k := k) (by omega)
  obtain ⟨j0, e0, hj0⟩ := hp.at (k := k) (by omega)
  rw [e0] at hno
  rw [gt_eq d k (by omega), e0]
  rcases h with ⟨rfl, h⟩ | ⟨j, rfl, h1, h2, h3⟩
  · exact absurd (h j0 hj0) hno
  · by_cases e : j = j0
    · rw [e]
    · have h4 := h3 j0 hj0 (by omega) hno
      obtain ⟨t, ht, et⟩ := hp.all h1
      have htk : k < t := by
        rcases Nat.lt_trichotomy t k with h | h | h
        · exact absurd (List.mem_iff_getElem.2 ⟨t, by simp; omega, by rw [List.getElem_take]; exact et⟩) h2
        · subst h; rw [e0] at et; omega
        · exact h
      have h5 := hs k t (by omega) htk (by omega)
      rw [gt_eq d k (by omega), gt_eq d t ht, e0, et] at h5
      unfold Rk at h5
      simp only [Int.toNat_natCast] at h5
      omega
end Go.Proofs.YtbjjgnaojoaoiaaGreat
/- Paying items in order, in plain words. -/
namespace Go.Proofs.YtbjjgnaojoaoiaaGreat
set_option linter.unusedVariables false
set_option linter.unusedSimpArgs false

structure Dq where
  due : Int
  kind : Int
  per : Int
  opn : Int
def okI (x : Dq) : Bool := decide (0 ≤ x.due ∧ x.due ≤ 3652058 ∧ 0 ≤ x.kind ∧ x.kind ≤ 2 ∧ 1 ≤ x.per ∧ x.per ≤ 99999 ∧ 0 ≤ x.opn ∧ x.opn ≤ 4611686018427387904)
def keyI (x : Dq) : Int := (x.due * 4 + x.kind) * 100000 + x.per
theorem okI_yes {x : Dq} (h : okI x = true) : 0 ≤ x.due ∧ x.due ≤ 3652058 ∧ 0 ≤ x.kind ∧ x.kind ≤ 2 ∧ 1 ≤ x.per ∧ x.per ≤ 99999 ∧ 0 ≤ x.opn ∧ x.opn ≤ 4611686018427387904 := by simpa [okI] using h
theorem keyI_bd {x : Dq} (h : okI x = true) : 0 ≤ keyI x ∧ keyI x ≤ 2000000000000 := by have := okI_yes h; unfold keyI; omega
/-- Lexicographic, as the text compares. -/
def aheadI (a b : Dq) : Bool := if a.due ≠ b.due then decide (a.due < b.due) else if a.kind ≠ b.kind then decide (a.kind < b.kind) else decide (a.per < b.per)
theorem aheadI_key {a b : Dq} (ha : okI a = true) (hb : okI b = true) : aheadI a b = decide (keyI a < keyI b) := by
  have h1 := okI_yes ha
  have h2 := okI_yes hb
  unfold aheadI keyI
  by_cases e1 : a.due = b.due
  · by_cases e2 : a.kind = b.kind
    · simp only [e1, e2, ne_eq, not_true_eq_false, if_false]; congr 1; exact propext ⟨by omega, by omega⟩
    · simp only [e1, e2, ne_eq, not_true_eq_false, not_false_eq_true, if_true, if_false]; congr 1; exact propext ⟨by omega, by omega⟩
  · simp only [e1, ne_eq, not_false_eq_true, if_true]; congr 1; exact propext ⟨by omega, by omega⟩
/-- What may be wrong with items: 1, 5, or nothing. -/
def placesE (its : List Dq) : Int := if its.length ≤ 200 ∧ its.all okI = true then (if (its.map keyI).Nodup then 0 else 5) else 1

def opens (its : List Dq) : Int := (its.map Dq.opn).sum
/-- What is open ahead of a key. -/
def ahd (its : List Dq) (k : Int) : Int := opens (its.filter fun x => decide (keyI x < k))
def clampP (o n : Int) : Int := max 0 (min o n)
def paidI (its : List Dq) (amount : Int) (x : Dq) : Int := clampP x.opn (amount - ahd its (keyI x))
def payL (its : List Dq) (amount : Int) : List Int := its.map (paidI its amount)
def leftI (its : List Dq) (amount : Int) : Int := max 0 (amount - opens its)

theorem sum_perm {a b : List Int} (h : a.Perm b) : a.sum = b.sum := by
  induction h with
  | nil => rfl
  | cons x _ ih => simp [ih]
  | swap x y l => simp only [List.sum_cons]; omega
  | trans _ _ h1 h2 => exact h1.trans h2
theorem opens_perm {a b : List Dq} (h : a.Perm b) : opens a = opens b := sum_perm (h.map _)
theorem ahd_perm {a b : List Dq} (h : a.Perm b) (k : Int) : ahd a k = ahd b k := opens_perm (h.filter _)
theorem opens_app (a b : List Dq) : opens (a ++ b) = opens a + opens b := by simp [opens]
theorem opens_nonneg {its : List Dq} (h : its.all okI = true) : 0 ≤ opens its := sum_nonneg fun x hx => by
  obtain ⟨q, hq, rfl⟩ := List.mem_map.1 hx
  have := okI_yes (List.all_eq_true.1 h q hq); omega
theorem opens_bound : ∀ {its : List Dq}, its.all okI = true → opens its ≤ 4611686018427387904 * its.length
  | [], _ => by simp [opens]
  | x :: l, h => by
    simp only [List.all_cons, Bool.and_eq_true] at h
    have h1 := opens_bound h.2
    have h2 := okI_yes h.1
    have e : opens (x :: l) = x.opn + opens l := by simp [opens]
    rw [e, List.length_cons]; omega
theorem ahd_nonneg {its : List Dq} (h : its.all okI = true) (k : Int) : 0 ≤ ahd its k := opens_nonneg (List.all_eq_true.2 fun x hx => List.all_eq_true.1 h x (List.mem_filter.1 hx).1)

/-- Items in the order in which they are paid. -/
def inOrd (its : List Dq) (d : List Int) : List Dq := d.map fun i => its.getD i.toNat ⟨0, 0, 0, 0⟩
theorem inOrd_perm {its : List Dq} {d : List Int} (h : Pl its.length d) : (inOrd its d).Perm its := by
  have h1 : (inOrd its d).Perm (((List.range its.length).map fun (i : Nat) => (i : Int)).map fun i => its.getD i.toNat ⟨0, 0, 0, 0⟩) := List.Perm.map _ h
  have h2 : (((List.range its.length).map fun (i : Nat) => (i : Int)).map fun i => its.getD i.toNat ⟨0, 0, 0, 0⟩) = its := by
    apply List.ext_getElem (by simp)
    intro i h1 h2; simp at h1; simp [h1]
  rw [h2] at h1; exact h1
theorem inOrd_len (its : List Dq) (d : List Int) : (inOrd its d).length = d.length := by simp [inOrd]
theorem inOrd_at {its : List Dq} {d : List Int} {k j : Nat} (hk : k < d.length) (hj : d[k] = (j : Int)) (hjn : j < its.length) : (inOrd its d)[k]'(by rw [inOrd_len]; exact hk) = its[j] := by
  simp [inOrd, hj, hjn]
/-- d names the items in rising order of their keys. -/
def Rise (its : List Dq) (d : List Int) : Prop := (inOrd its d).Pairwise fun a b => keyI a < keyI b
theorem filter_rise {s : List Dq} (h : s.Pairwise fun a b => keyI a < keyI b) {k : Nat} (hk : k < s.length) : s.filter (fun x => decide (keyI x < keyI s[k])) = s.take k := by
  induction s generalizing k with
  | nil => simp at hk
  | cons x s ih =>
    rw [List.pairwise_cons] at h
    cases k with
    | zero =>
      simp only [List.getElem_cons_zero, List.take_zero]
      rw [List.filter_eq_nil_iff]
      intro y hy
      rcases List.mem_cons.1 hy with rfl | hy
      · simp
      · have := h.1 y hy; simp; omega
    | succ k =>
      simp only [List.getElem_cons_succ, List.take_succ_cons]
      have hx := h.1 _ (List.getElem_mem (l := s) (n := k) (by simpa using hk))
      rw [List.filter_cons_of_pos (by simpa using hx), ih h.2 (by simpa using hk)]
theorem ahd_at {its : List Dq} {d : List Int} (h : Pl its.length d) (hr : Rise its d) {k j : Nat} (hk : k < d.length) (hj : d[k] = (j : Int)) (hjn : j < its.length) : ahd its (keyI its[j]) = opens ((inOrd its d).take k) := by
  rw [← ahd_perm (inOrd_perm h), ← inOrd_at hk hj hjn]
  unfold ahd
  rw [filter_rise hr (by rw [inOrd_len]; exact hk)]
theorem opens_take {s : List Dq} {k : Nat} (hk : k < s.length) : opens (s.take (k + 1)) = opens (s.take k) + s[k].opn := by
  rw [List.take_succ_eq_append_getElem hk, opens_app]; simp [opens]
/-- Paid so far: what the first k of d are. -/
def paidTo (its : List Dq) (amount : Int) (d : List Int) (k : Nat) : List Int := (payL its amount).mapIdx fun i x => if (i : Int) ∈ d.take k then x else 0
theorem paidTo_len (its : List Dq) (amount : Int) (d : List Int) (k : Nat) : (paidTo its amount d k).length = its.length := by simp [paidTo, payL]
theorem paidTo_zero (its : List Dq) (amount : Int) (d : List Int) : paidTo its amount d 0 = List.replicate its.length 0 := by
  apply List.ext_getElem (by simp [paidTo, payL])
  intro i h1 h2; simp [paidTo]
theorem paidTo_step {its : List Dq} {amount : Int} {d : List Int} {k j : Nat} (h : k < d.length) (hj : d[k] = (j : Int)) (hjq : j < its.length) :
    paidTo its amount d (k + 1) = (paidTo its amount d k).set j (paidI its amount its[j]) := by
  apply List.ext_getElem (by simp [paidTo, payL])
  intro i h1 h2
  rw [List.getElem_set]
  simp only [paidTo, payL, List.getElem_mapIdx, List.getElem_map, mem_take_succ h, hj]
  by_cases e : j = i
  · subst e; simp
  · have : ¬ ((i : Int) = (j : Int)) := by omega
    simp [e, this]
theorem paidTo_all {its : List Dq} {amount : Int} {d : List Int} (h : Pl its.length d) : paidTo its amount d d.length = payL its amount := by
  apply List.ext_getElem (by simp [paidTo, payL])
  intro i h1 h2
  simp only [paidTo, List.getElem_mapIdx, List.take_length]
  rw [if_pos]
  exact h.mem_iff.2 (List.mem_map.2 ⟨i, by simp [paidTo, payL] at h1; simpa using h1, rfl⟩)
/-- What is left behind the first k of d. -/
def leftTo (its : List Dq) (amount : Int) (d : List Int) (k : Nat) : Int := max 0 (amount - opens ((inOrd its d).take k))
theorem leftTo_zero {its : List Dq} {amount : Int} {d : List Int} (h : 0 ≤ amount) : leftTo its amount d 0 = amount := by simp [leftTo, opens]; omega
theorem leftTo_all {its : List Dq} {amount : Int} {d : List Int} (h : Pl its.length d) : leftTo its amount d d.length = leftI its amount := by
  unfold leftTo leftI
  rw [List.take_of_length_le (by rw [inOrd_len]; omega), opens_perm (inOrd_perm h)]
theorem pay_step {its : List Dq} {amount : Int} {d : List Int} (hok : its.all okI = true) (h : Pl its.length d) (hr : Rise its d) {k j : Nat} (hk : k < d.length) (hj : d[k] = (j : Int)) (hjn : j < its.length) :
    paidI its amount its[j] = min its[j].opn (leftTo its amount d k) ∧ leftTo its amount d (k + 1) = leftTo its amount d k - min its[j].opn (leftTo its amount d k) := by
  have h1 := ahd_at h hr hk hj hjn
  have h2 := okI_yes (List.all_eq_true.1 hok _ (List.getElem_mem hjn))
  have h3 : opens ((inOrd its d).take (k + 1)) = opens ((inOrd its d).take k) + its[j].opn := by
    rw [opens_take (by rw [inOrd_len]; exact hk), inOrd_at hk hj hjn]
  unfold paidI leftTo clampP
  rw [h1, h3]
  omega
theorem rise_srt {its : List Dq} {d : List Int} (h : Pl its.length d) (hr : Rise its d) : Srt (fun x => gt (its.map fun x => - keyI x) x.toNat) 0 its.length d := by
  intro p q p1 p2 p3
  have hl := h.len
  obtain ⟨i, ei, hi⟩ := h.at (k := p) (by omega)
  obtain ⟨j, ej, hj⟩ := h.at (k := q) (by omega)
  have := List.pairwise_iff_getElem.1 hr p q (by rw [inOrd_len]; omega) (by rw [inOrd_len]; omega) p2
  rw [inOrd_at (by omega) ei hi, inOrd_at (by omega) ej hj] at this
  rw [gt_eq d p (by omega), gt_eq d q (by omega), ei, ej]
  left
  simp only [Int.toNat_natCast]
  rw [gt_eq _ _ (by simpa using hj), gt_eq _ _ (by simpa using hi)]
  simp; omega
end Go.Proofs.YtbjjgnaojoaoiaaGreat
/- What comes of paying items in order. -/
namespace Go.Proofs.YtbjjgnaojoaoiaaGreat
set_option linter.unusedVariables false
set_option linter.unusedSimpArgs false

theorem placesE_ok {its : List Dq} (h : placesE its = 0) : its.length ≤ 200 ∧ its.all okI = true ∧ (its.map keyI).Nodup := by
  unfold placesE at h
  by_cases h1 : its.length ≤ 200 ∧ its.all okI = true
  · rw [if_pos h1] at h
    by_cases h2 : (its.map keyI).Nodup
    · exact ⟨h1.1, h1.2, h2⟩
    · rw [if_neg h2] at h; omega
  · rw [if_neg h1] at h; omega
theorem placesE_cases (its : List Dq) : placesE its = 0 ∨ placesE its = 1 ∨ placesE its = 5 := by
  unfold placesE; split
  · split <;> simp
  · simp
/-- Sorted, and no two neighbours of one key: rising. -/
theorem rise_of' {s : List Dq} (hs : s.Pairwise fun a b => ¬ keyI b < keyI a) (hn : ∀ k (h : k + 1 < s.length), keyI (s[k]) ≠ keyI (s[k + 1])) : s.Pairwise fun a b => keyI a < keyI b := by
  rw [List.pairwise_iff_getElem] at hs ⊢
  intro i j hi hj hij
  have h1 := hn i (by omega)
  have h2 := hs i (i + 1) hi (by omega) (by omega)
  by_cases e : i + 1 = j
  · subst e; omega
  · have h3 := hs (i + 1) j (by omega) hj (by omega); omega
theorem rise_of {its : List Dq} {d : List Int} (hs : (inOrd its d).Pairwise fun a b => ¬ keyI b < keyI a) (hn : ∀ k (h : k + 1 < (inOrd its d).length), keyI ((inOrd its d)[k]) ≠ keyI ((inOrd its d)[k + 1])) : Rise its d := rise_of' hs hn
theorem rise_nodup {its : List Dq} {d : List Int} (h : Pl its.length d) (hr : Rise its d) : (its.map keyI).Nodup := by
  have h1 : ((inOrd its d).map keyI).Nodup := by
    refine List.pairwise_map.2 (hr.imp ?_)
    intro a b hab; omega
  exact ((inOrd_perm h).map keyI).nodup_iff.1 h1
theorem not_nodup {its : List Dq} {d : List Int} (h : Pl its.length d) {k : Nat} (hk : k + 1 < (inOrd its d).length) (e : keyI ((inOrd its d)[k]) = keyI ((inOrd its d)[k + 1])) : ¬ (its.map keyI).Nodup := fun hn => by
  have h1 := ((inOrd_perm h).map keyI).nodup_iff.2 hn
  have := List.pairwise_iff_getElem.1 h1 k (k + 1) (by simp; omega) (by simpa using hk) (by omega)
  simp at this
  exact this e
theorem two_nodup {its : List Dq} {i j : Nat} (hi : i < its.length) (hj : j < its.length) (hij : i ≠ j) (e : keyI its[i] = keyI its[j]) : ¬ (its.map keyI).Nodup := fun hn => by
  rcases Nat.lt_or_gt_of_ne hij with h | h
  · have := List.pairwise_iff_getElem.1 hn i j (by simpa using hi) (by simpa using hj) h
    simp at this; exact this e
  · have := List.pairwise_iff_getElem.1 hn j i (by simpa using hj) (by simpa using hi) h
    simp at this; exact this e.symm
theorem nodup_of {its : List Dq} (h : ∀ i j (hi : i < its.length) (hj : j < i), keyI its[i] ≠ keyI its[j]) : (its.map keyI).Nodup := by
  refine List.pairwise_iff_getElem.2 fun i j hi hj hij => ?_
  simp; exact fun e => h j i (by simpa using hj) hij e.symm
theorem rank_at {its : List Dq} {d : List Int} (h : Pl its.length d) (hr : Rise its d) {k j : Nat} (hk : k < d.length) (hj : d[k] = (j : Int)) (hjn : j < its.length) : (its.countP fun x => decide (keyI x < keyI its[j])) = k := by
  rw [← (inOrd_perm h).countP_eq, ← inOrd_at hk hj hjn, List.countP_eq_length_filter, filter_rise hr (by rw [inOrd_len]; exact hk), List.length_take, inOrd_len]; omega
/-- The ones ahead, and one that is ahead of no less, are no more than all ahead of a greater key. -/
theorem filter_le {its : List Dq} (hok : its.all okI = true) {p q : Dq → Bool} (hpq : ∀ x, p x = true → q x = true) {x : Dq} (hx : x ∈ its) (hp : p x = false) (hq : q x = true) : opens (its.filter p) + x.opn ≤ opens (its.filter q) := by
  have mono : ∀ l : List Dq, l.all okI = true → opens (l.filter p) ≤ opens (l.filter q) := by
    intro l
    induction l with
    | nil => intro _; simp
    | cons y l ih =>
      intro hl
      simp only [List.all_cons, Bool.and_eq_true] at hl
      have h1 := ih hl.2
      have h2 := okI_yes hl.1
      have e : ∀ l, opens (y :: l) = y.opn + opens l := fun l => by simp [opens]
      rw [List.filter_cons, List.filter_cons]
      by_cases hp : p y = true
      · rw [if_pos hp, if_pos (hpq y hp), e, e]; omega
      · rw [if_neg hp]; split
        · rw [e]; omega
        · exact h1
  induction its with
  | nil => cases hx
  | cons y l ih =>
    simp only [List.all_cons, Bool.and_eq_true] at hok
    have e : ∀ l, opens (y :: l) = y.opn + opens l := fun l => by simp [opens]
    have h2 := okI_yes hok.1
    have h3 := mono l hok.2
    rw [List.filter_cons, List.filter_cons]
    rcases List.mem_cons.1 hx with rfl | hx
    · rw [if_neg (by simp [hp]), if_pos hq, e]; omega
    · have h1 := ih hok.2 hx
      by_cases hp : p y = true
      · rw [if_pos hp, if_pos (hpq y hp), e, e]; omega
      · rw [if_neg hp]; split
        · rw [e]; omega
        · exact h1
theorem ahd_lt {its : List Dq} (hok : its.all okI = true) {x : Dq} (hx : x ∈ its) {K : Int} (h : keyI x < K) : ahd its (keyI x) + x.opn ≤ ahd its K :=
  filter_le hok (fun y hy => by simp at hy ⊢; omega) hx (by simp) (by simpa using h)
theorem ahd_all {its : List Dq} (hok : its.all okI = true) {x : Dq} (hx : x ∈ its) : ahd its (keyI x) + x.opn ≤ opens its := by
  have := filter_le hok (p := fun y => decide (keyI y < keyI x)) (q := fun _ => true) (fun _ _ => rfl) hx (by simp) rfl
  rw [List.filter_eq_self.2 (fun _ _ => rfl)] at this; exact this
theorem paid_bd {its : List Dq} (hok : its.all okI = true) {amount : Int} {x : Dq} (hx : x ∈ its) : 0 ≤ paidI its amount x ∧ paidI its amount x ≤ x.opn := by
  have := okI_yes (List.all_eq_true.1 hok x hx)
  unfold paidI clampP; omega
/-- All that is paid, and what is left, are the amount. -/
theorem paidSum {its : List Dq} {amount : Int} {d : List Int} (hok : its.all okI = true) (h : Pl its.length d) (hr : Rise its d) (ha : 0 ≤ amount) : (payL its amount).sum = amount - leftI its amount := by
  have key : ∀ k, k ≤ d.length → (paidTo its amount d k).sum = amount - leftTo its amount d k := by
    intro k
    induction k with
    | zero => intro _; rw [paidTo_zero, leftTo_zero ha]; have : ∀ n, (List.replicate n (0 : Int)).sum = 0 := fun n => by induction n with | zero => rfl | succ n ih => simp [List.replicate_succ, ih]
              rw [this]; omega
    | succ k ih =>
      intro hk
      obtain ⟨j, ej, hj⟩ := h.at (k := k) (by omega)
      obtain ⟨p1, p2⟩ := pay_step (amount := amount) hok h hr (by omega) ej hj
      have h0 : (paidTo its amount d k)[j]'(by rw [paidTo_len]; exact hj) = 0 := by
        have hno := nodup_take h.nodup (k := k) (by omega)
        rw [ej] at hno
        simp [paidTo, hno]
      rw [paidTo_step (by omega) ej hj, sum_set _ _ (by rw [paidTo_len]; exact hj), ih (by omega), h0, p2, p1]; omega
  rw [← paidTo_all h, key _ (Nat.le_refl _), leftTo_all h]
theorem sum_take_le {l : List Int} (h : ∀ x ∈ l, 0 ≤ x) (k : Nat) : (l.take k).sum ≤ l.sum := by
  have h5 : 0 ≤ (l.drop k).sum := sum_nonneg (fun x hx => h x (List.mem_of_mem_drop hx))
  have h6 : (l.take k).sum + (l.drop k).sum = l.sum := by rw [← List.sum_append, List.take_append_drop]
  omega
/-- What is open once an amount was paid. -/
def restI (its : List Dq) (a : Int) : List Dq := its.map fun x => ⟨x.due, x.kind, x.per, x.opn - paidI its a x⟩
theorem rest_ok {its : List Dq} (hok : its.all okI = true) (a : Int) : (restI its a).all okI = true := by
  rw [List.all_eq_true]
  intro y hy
  obtain ⟨x, hx, rfl⟩ := List.mem_map.1 hy
  have h1 := okI_yes (List.all_eq_true.1 hok x hx)
  have h2 := paid_bd hok (amount := a) hx
  simp only [okI, decide_eq_true_eq]; omega
theorem rest_keys (its : List Dq) (a : Int) : (restI its a).map keyI = its.map keyI := by simp [restI, keyI]
theorem rest_places {its : List Dq} (h : placesE its = 0) (a : Int) : placesE (restI its a) = 0 := by
  obtain ⟨h1, h2, h3⟩ := placesE_ok h
  unfold placesE
  rw [if_pos ⟨by simpa [restI] using h1, rest_ok h2 a⟩, if_pos (by rw [rest_keys]; exact h3)]
theorem rest_ahd {its : List Dq} {d : List Int} {a : Int} (hok : its.all okI = true) (h : Pl its.length d) (hr : Rise its d) (ha : 0 ≤ a) {x : Dq} (hx : x ∈ its) : ahd (restI its a) (keyI x) = max 0 (ahd its (keyI x) - a) := by
  obtain ⟨j, hj, rfl⟩ := List.mem_iff_getElem.1 hx
  obtain ⟨k, hk, ek⟩ := h.all hj
  have hl : (restI its a).length = its.length := by simp [restI]
  have h' : Pl (restI its a).length d := by rw [hl]; exact h
  have ein : inOrd (restI its a) d = (inOrd its d).map fun x => ⟨x.due, x.kind, x.per, x.opn - paidI its a x⟩ := by
    unfold inOrd restI
    rw [List.map_map]
    apply List.map_congr_left
    intro i hi
    obtain ⟨t, ht, et⟩ := List.mem_iff_getElem.1 hi
    obtain ⟨u, eu, hu⟩ := h.at ht
    rw [← et, eu]; simp [hu]
  have hr' : Rise (restI its a) d := by
    unfold Rise; rw [ein, List.pairwise_map]; exact hr
  have e1 := ahd_at h' hr' hk ek (by rw [hl]; exact hj)
  have e2 := ahd_at h hr hk ek hj
  have e3 : keyI ((restI its a)[j]'(by rw [hl]; exact hj)) = keyI its[j] := by simp [restI, keyI]
  rw [e3] at e1
  rw [e1, e2, ein, ← List.map_take]
  have key : ∀ k, k ≤ d.length → opens (((inOrd its d).take k).map fun x => ⟨x.due, x.kind, x.per, x.opn - paidI its a x⟩) = opens ((inOrd its d).take k) - (a - leftTo its a d k) := by
    intro k
    induction k with
    | zero => intro _; rw [leftTo_zero ha]; simp [opens]
    | succ k ih =>
      intro hk
      obtain ⟨i, ei, hi⟩ := h.at (k := k) (by omega)
      obtain ⟨p1, p2⟩ := pay_step (amount := a) hok h hr (by omega) ei hi
      have hk' : k < (inOrd its d).length := by rw [inOrd_len]; omega
      have e4 := inOrd_at (its := its) (by omega) ei hi
      rw [List.take_succ_eq_append_getElem hk', List.map_append, opens_app, opens_app, ih (by omega), e4, p2]
      have e5 : ∀ y : Dq, opens [y] = y.opn := fun y => by simp [opens]
      simp only [List.map_cons, List.map_nil, e5]
      rw [p1]; omega
  rw [key k (by omega)]
  unfold leftTo
  omega
/-- Two payments, one behind the other. -/
theorem twice {its : List Dq} {d : List Int} {a b : Int} (hok : its.all okI = true) (h : Pl its.length d) (hr : Rise its d) (ha : 0 ≤ a) (hb : 0 ≤ b) {x : Dq} (hx : x ∈ its) :
    paidI its a x + paidI (restI its a) b ⟨x.due, x.kind, x.per, x.opn - paidI its a x⟩ = paidI its (a + b) x := by
  have e : keyI (⟨x.due, x.kind, x.per, x.opn - paidI its a x⟩ : Dq) = keyI x := rfl
  have h1 := ahd_nonneg hok (keyI x)
  have h2 := okI_yes (List.all_eq_true.1 hok x hx)
  have h3 := rest_ahd hok h hr ha hx
  have e2 : paidI (restI its a) b ⟨x.due, x.kind, x.per, x.opn - paidI its a x⟩ = clampP (x.opn - paidI its a x) (b - max 0 (ahd its (keyI x) - a)) := by
    show clampP _ (b - ahd (restI its a) (keyI _)) = _
    rw [e, h3]
  rw [e2]
  unfold paidI clampP
  omega
theorem twice_left {its : List Dq} {d : List Int} {a b : Int} (hok : its.all okI = true) (h : Pl its.length d) (hr : Rise its d) (ha : 0 ≤ a) (hb : 0 ≤ b) : leftI its a + leftI (restI its a) b = leftI its (a + b) := by
  have h1 := paidSum hok h hr ha
  have e : opens (restI its a) = opens its - (payL its a).sum := by
    clear h1 h hr
    unfold restI payL
    generalize paidI its a = f
    induction its with
    | nil => simp [opens]
    | cons x l ih =>
      simp only [List.all_cons, Bool.and_eq_true] at hok
      have := ih hok.2
      simp only [opens, List.map_cons, List.sum_cons] at this ⊢; omega
  have h0 := opens_nonneg hok
  unfold leftI at *
  omega
theorem rev_paid (its : List Dq) (a : Int) : payL its.reverse a = (payL its a).reverse := by
  unfold payL
  rw [← List.map_reverse]
  apply List.map_congr_left
  intro x _
  unfold paidI
  rw [ahd_perm (List.reverse_perm its)]
theorem rev_left (its : List Dq) (a : Int) : leftI its.reverse a = leftI its a := by unfold leftI; rw [opens_perm (List.reverse_perm its)]
theorem rev_places (its : List Dq) : placesE its.reverse = placesE its := by
  have e : (its.reverse.map keyI).Nodup ↔ (its.map keyI).Nodup := ((List.reverse_perm its).map keyI).nodup_iff
  unfold placesE
  simp only [List.length_reverse, List.all_reverse, e]
/-- All that is open pays all. -/
theorem whole_paid {its : List Dq} (hok : its.all okI = true) {x : Dq} (hx : x ∈ its) : paidI its (opens its) x = x.opn := by
  have h1 := ahd_all hok hx
  have h2 := okI_yes (List.all_eq_true.1 hok x hx)
  unfold paidI clampP; omega
theorem less_paid {its : List Dq} (hok : its.all okI = true) {l : Dq} (hl : l ∈ its) (hlo : 0 < l.opn) {x : Dq} (hx : x ∈ its) (hk : 0 < x.opn → keyI x < keyI l) : paidI its (opens its - 1) x = x.opn := by
  have h2 := okI_yes (List.all_eq_true.1 hok x hx)
  by_cases h0 : 0 < x.opn
  · have h1 := ahd_lt hok hx (hk h0)
    have h3 := ahd_all hok hl
    unfold paidI clampP; omega
  · unfold paidI clampP; omega
theorem last_paid {its : List Dq} (hok : its.all okI = true) {l : Dq} (hl : l ∈ its) (hlo : 0 < l.opn) (hu : ∀ x ∈ its, 0 < x.opn → x = l ∨ keyI x < keyI l) (hnd : (its.map keyI).Nodup) : paidI its (opens its - 1) l = l.opn - 1 := by
  have e : ahd its (keyI l) + l.opn = opens its := by
    clear hlo
    unfold ahd
    induction its with
    | nil => cases hl
    | cons y s ih =>
      simp only [List.all_cons, Bool.and_eq_true] at hok
      simp only [List.map_cons, List.nodup_cons] at hnd
      have e : ∀ l, opens (y :: l) = y.opn + opens l := fun l => by simp [opens]
      have hy := okI_yes hok.1
      by_cases hmem : l ∈ s
      · have h1 := ih hok.2 hmem (fun x hx => hu x (by simp [hx])) hnd.2
        rw [List.filter_cons, e]
        have hne : keyI y ≠ keyI l := fun e => hnd.1 (by rw [e]; exact List.mem_map_of_mem hmem)
        by_cases hp : 0 < y.opn
        · rcases hu y (by simp) hp with rfl | h
          · exact absurd rfl hne
          · rw [if_pos (by simpa using h), e]; omega
        · split
          · rw [e]; omega
          · omega
      · have hyl : y = l := by rcases List.mem_cons.1 hl with h | h
                               · exact h.symm
                               · exact absurd h hmem
        subst hyl
        rw [List.filter_cons_of_neg (by simp), e]
        have hs : ∀ t : List Dq, (∀ x ∈ t, x ∈ s) → opens (t.filter fun x => decide (keyI x < keyI y)) = opens t := by
          intro t
          induction t with
          | nil => intro _; simp
          | cons z t iht =>
            intro ht
            have ez : ∀ l, opens (z :: l) = z.opn + opens l := fun l => by simp [opens]
            have hz := okI_yes (List.all_eq_true.1 hok.2 z (ht z (by simp)))
            have h1 := iht (fun x hx => ht x (by simp [hx]))
            have hne : z ≠ y := fun e => hnd.1 (by rw [← e]; exact List.mem_map_of_mem (ht z (by simp)))
            rw [List.filter_cons, ez]
            by_cases hp : 0 < z.opn
            · rcases hu z (by simp [ht z (by simp)]) hp with h | h
              · exact absurd h hne
              · rw [if_pos (by simpa using h), ez, h1]
            · split
              · rw [ez, h1]
              · rw [h1]; omega
        rw [hs s (fun _ h => h)]; omega
  have h1 := ahd_nonneg hok (keyI l)
  have h2 := okI_yes (List.all_eq_true.1 hok l hl)
  unfold paidI clampP; omega
end Go.Proofs.YtbjjgnaojoaoiaaGreat
