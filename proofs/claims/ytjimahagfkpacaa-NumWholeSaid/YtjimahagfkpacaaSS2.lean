/- Merging in place, and insertion, in plain words. -/
import Derived.Test.YtjimahagfkpacaaSS
namespace Go.Proofs.Ytjimahagfkpacaa
set_option linter.unusedVariables false
set_option linter.unusedSimpArgs false

/-- A search by halves: nothing ahead of s is, whatever is at r or behind is. -/
def Bse (lo hi : Nat) (C : Nat → Prop) (s r : Nat) : Prop := lo ≤ s ∧ s ≤ r ∧ r ≤ hi ∧ (s = lo ∨ ¬ C (s - 1)) ∧ (r = hi ∨ C r)
theorem Bse.start {lo hi : Nat} {C : Nat → Prop} (h : lo ≤ hi) : Bse lo hi C lo hi := ⟨Nat.le_refl _, h, Nat.le_refl _, .inl rfl, .inl rfl⟩
theorem Bse.yes {lo hi : Nat} {C : Nat → Prop} {s r : Nat} (h : Bse lo hi C s r) (hlt : s < r) (hc : C ((s + r) / 2)) : Bse lo hi C s ((s + r) / 2) :=
  ⟨h.1, by omega, by have := h.2.2.1; omega, h.2.2.2.1, .inr hc⟩
theorem Bse.no {lo hi : Nat} {C : Nat → Prop} {s r : Nat} (h : Bse lo hi C s r) (hlt : s < r) (hc : ¬ C ((s + r) / 2)) : Bse lo hi C ((s + r) / 2 + 1) r :=
  ⟨by have := h.1; omega, by omega, h.2.2.1, .inr hc, h.2.2.2.2⟩

/-- What stands behind the turning of start .. e about m. -/
structure Halves (f : Int → Int) (a start mid e b : Nat) (d : List Int) : Prop where
  s1 : Srt f a start d
  s2 : Srt f start mid d
  c1 : Crs a start mid d
  s3 : Srt f mid e d
  s4 : Srt f e b d
  c2 : Crs mid e b d
  x : ∀ p q, a ≤ p → p < mid → mid ≤ q → q < b → Rk f (gt d p) (gt d q)
theorem halves {f : Int → Int} {a m b start mid e : Nat} {d d' : List Int} (hs : Srt f a m d) (ht : Srt f m b d) (hc : Crs a m b d) (h1 : a ≤ start) (h2 : start ≤ m) (h3 : m ≤ e) (h4 : e ≤ b) (h5 : start + e = mid + m)
    (hl : start = a ∨ e = b ∨ ¬ f (gt d (start - 1)) < f (gt d e)) (hh : start = m ∨ e = m ∨ f (gt d start) < f (gt d (e - 1)))
    (hd : ∀ p, start ≤ p → p < e → gt d' p = rot d start m e p) (ho : ∀ p, (p < start ∨ e ≤ p) → gt d' p = gt d p) : Halves f a start mid e b d' := by
  have g1 : ∀ p, p < start → gt d' p = gt d p := fun p h => ho p (.inl h)
  have g2 : ∀ p, start ≤ p → p < mid → gt d' p = gt d (p + (m - start)) := fun p p1 p2 => by rw [hd p p1 (by omega)]; unfold rot; rw [if_pos (by omega)]
  have g3 : ∀ p, mid ≤ p → p < e → gt d' p = gt d (p - (e - m)) := fun p p1 p2 => by rw [hd p (by omega) p2]; unfold rot; rw [if_neg (by omega)]
  have g4 : ∀ p, e ≤ p → gt d' p = gt d p := fun p h => ho p (.inr h)
  have X1 : ∀ i j, a ≤ i → i < start → e ≤ j → j < b → Rk f (gt d i) (gt d j) := fun i j i1 i2 j1 j2 => by
    have hlast : Rk f (gt d (start - 1)) (gt d e) := by
      have hx := hc (start - 1) e (by omega) (by omega) (by omega) (by omega)
      rcases hl with h | h | h
      · omega
      · omega
      · unfold Rk; omega
    have l1 : i = start - 1 ∨ Rk f (gt d i) (gt d (start - 1)) := by
      by_cases h : i = start - 1
      · exact .inl h
      · exact .inr (hs i (start - 1) i1 (by omega) (by omega))
    have l2 : j = e ∨ Rk f (gt d e) (gt d j) := by
      by_cases h : j = e
      · exact .inl h
      · exact .inr (ht e j h3 (by omega) j2)
    rcases l1 with rfl | l1 <;> rcases l2 with rfl | l2
    · exact hlast
    · exact hlast.trans l2
    · exact l1.trans hlast
    · exact (l1.trans hlast).trans l2
  have X2 : ∀ j i, m ≤ j → j < e → start ≤ i → i < m → Rk f (gt d j) (gt d i) := fun j i j1 j2 i1 i2 => by
    have hfst : Rk f (gt d (e - 1)) (gt d start) := by
      rcases hh with h | h | h
      · omega
      · omega
      · exact .inl h
    have l1 : j = e - 1 ∨ Rk f (gt d j) (gt d (e - 1)) := by
      by_cases h : j = e - 1
      · exact .inl h
      · exact .inr (ht j (e - 1) j1 (by omega) (by omega))
    have l2 : i = start ∨ Rk f (gt d start) (gt d i) := by
      by_cases h : i = start
      · exact .inl h
      · exact .inr (hs start i h1 (by omega) i2)
    rcases l1 with rfl | l1 <;> rcases l2 with rfl | l2
    · exact hfst
    · exact hfst.trans l2
    · exact l1.trans hfst
    · exact (l1.trans hfst).trans l2
  refine ⟨fun p q p1 p2 p3 => ?_, fun p q p1 p2 p3 => ?_, fun p q p1 p2 p3 p4 => ?_, fun p q p1 p2 p3 => ?_, fun p q p1 p2 p3 => ?_, fun p q p1 p2 p3 p4 => ?_, fun p q p1 p2 p3 p4 => ?_⟩
  · rw [g1 p (by omega), g1 q (by omega)]; exact hs p q p1 p2 (by omega)
  · rw [g2 p (by omega) (by omega), g2 q (by omega) (by omega)]; exact ht _ _ (by omega) (by omega) (by omega)
  · rw [g1 p (by omega), g2 q (by omega) (by omega)]; exact hc _ _ (by omega) (by omega) (by omega) (by omega)
  · rw [g3 p (by omega) (by omega), g3 q (by omega) (by omega)]; exact hs _ _ (by omega) (by omega) (by omega)
  · rw [g4 p (by omega), g4 q (by omega)]; exact ht _ _ (by omega) (by omega) (by omega)
  · rw [g3 p (by omega) (by omega), g4 q (by omega)]; exact hc _ _ (by omega) (by omega) (by omega) (by omega)
  · by_cases hp : p < start <;> by_cases hq : q < e
    · rw [g1 p hp, g3 q p3 hq]; exact hs _ _ (by omega) (by omega) (by omega)
    · rw [g1 p hp, g4 q (by omega)]; exact X1 _ _ (by omega) (by omega) (by omega) (by omega)
    · rw [g2 p (by omega) (by omega), g3 q p3 hq]; exact X2 _ _ (by omega) (by omega) (by omega) (by omega)
    · rw [g2 p (by omega) (by omega), g4 q (by omega)]; exact ht _ _ (by omega) (by omega) (by omega)
theorem Crs.pin {a m b : Nat} {d d' : List Int} (h : Crs a m b d) (h1 : PIn a m d d') : Crs a m b d' := fun p q p1 p2 p3 p4 => by
  obtain ⟨r, r1, r2, e⟩ := h1.mem p p1 p2
  rw [e, h1.out q (by omega)]; exact h r q r1 r2 p3 p4
theorem halves_done {f : Int → Int} {a mid b : Nat} {d d2 d3 : List Int} (hm : a ≤ mid) (hb : mid ≤ b) (hx : ∀ p q, a ≤ p → p < mid → mid ≤ q → q < b → Rk f (gt d p) (gt d q)) (h1 : PIn a mid d d2) (s1 : Srt f a mid d2) (h2 : PIn mid b d2 d3) (s2 : Srt f mid b d3) :
    Srt f a b d3 := fun p q p1 p2 p3 => by
  by_cases hq : q < mid
  · rw [h2.out p (by omega), h2.out q (by omega)]; exact s1 p q p1 p2 hq
  · by_cases hp : mid ≤ p
    · exact s2 p q hp p2 p3
    · obtain ⟨r, r1, r2, e⟩ := h1.mem p p1 (by omega)
      obtain ⟨t, t1, t2, e2⟩ := h2.mem q (by omega) p3
      rw [h2.out p (by omega), e, e2, h1.out t (by omega)]
      exact hx r t r1 r2 t1 t2

/-- The first one on its way up: at k, of a .. -/
structure Up (a k : Nat) (d d' : List Int) : Prop where
  ahead : ∀ p, a ≤ p → p < k → gt d' p = gt d (p + 1)
  here : gt d' k = gt d a
  out : ∀ p, (p < a ∨ k < p) → gt d' p = gt d p
  len : d'.length = d.length
  perm : d'.Perm d
theorem Up.start (a : Nat) (d : List Int) : Up a a d d := ⟨fun p h1 h2 => by omega, rfl, fun _ _ => rfl, rfl, List.Perm.refl _⟩
theorem Up.step {a k : Nat} {d d' : List Int} (h : Up a k d d') (hak : a ≤ k) (hl : k + 1 < d.length) : Up a (k + 1) d (swp d' k (k + 1)) := by
  have hl' := h.len
  have g := fun p => gt_swp d' k (k + 1) p (by omega) (by omega)
  refine ⟨fun p p1 p2 => ?_, ?_, fun p hp => ?_, (swp_len _ _ _).trans h.len, (swp_perm _ _ _ (by omega) (by omega)).trans h.perm⟩
  · rw [g, if_neg (by omega)]
    by_cases e : p = k
    · subst e; rw [if_pos rfl]; exact h.out _ (by omega)
    · rw [if_neg e]; exact h.ahead p p1 (by omega)
  · rw [g, if_pos rfl]; exact h.here
  · rw [g, if_neg (by omega), if_neg (by omega)]; exact h.out p (by omega)
theorem Up.pin {a k : Nat} {d d' : List Int} (h : Up a k d d') (hak : a ≤ k) {b : Nat} (hb : k < b) : PIn a b d d' :=
  ⟨h.len, fun p hp => h.out p (by omega), fun p p1 p2 => by
    by_cases e1 : p < k
    · exact ⟨p + 1, by omega, by omega, h.ahead p p1 e1⟩
    · by_cases e2 : p = k
      · subst e2; exact ⟨a, by omega, by omega, h.here⟩
      · exact ⟨p, p1, p2, h.out p (by omega)⟩, h.perm⟩
theorem Up.sorted {f : Int → Int} {a b i : Nat} {d d' : List Int} (ht : Srt f (a + 1) b d) (hc : Crs a (a + 1) b d) (hi : Bse (a + 1) b (fun h => ¬ f (gt d a) < f (gt d h)) i i) (h : Up a (i - 1) d d') : Srt f a b d' := by
  obtain ⟨b1, _, b3, b4, b5⟩ := hi
  have L : ∀ p, a + 1 ≤ p → p < i → Rk f (gt d p) (gt d a) := fun p p1 p2 => by
    have hl : Rk f (gt d (i - 1)) (gt d a) := by
      rcases b4 with h | h
      · omega
      · exact .inl (by omega)
    by_cases e : p = i - 1
    · subst e; exact hl
    · exact (ht p (i - 1) p1 (by omega) (by omega)).trans hl
  have H : ∀ p, i ≤ p → p < b → Rk f (gt d a) (gt d p) := fun p p1 p2 => by
    have hl : Rk f (gt d a) (gt d i) := by
      have hx := hc a i (by omega) (by omega) b1 (by omega)
      rcases b5 with h | h
      · omega
      · unfold Rk; omega
    by_cases e : p = i
    · subst e; exact hl
    · exact hl.trans (ht i p b1 (by omega) p2)
  intro p q p1 p2 p3
  by_cases hp : p < i - 1 <;> by_cases hq : q < i - 1
  · rw [h.ahead p p1 hp, h.ahead q (by omega) hq]; exact ht _ _ (by omega) (by omega) (by omega)
  · rw [h.ahead p p1 hp]
    by_cases e : q = i - 1
    · subst e; rw [h.here]; exact L _ (by omega) (by omega)
    · rw [h.out q (by omega)]; exact ht _ _ (by omega) (by omega) (by omega)
  · omega
  · by_cases e : p = i - 1
    · subst e; rw [h.here, h.out q (by omega)]; exact H _ (by omega) (by omega)
    · rw [h.out p (by omega), h.out q (by omega)]; exact ht _ _ (by omega) (by omega) (by omega)

/-- The last one on its way down: at k, from m. -/
structure Down (m k : Nat) (d d' : List Int) : Prop where
  behind : ∀ p, k < p → p ≤ m → gt d' p = gt d (p - 1)
  here : gt d' k = gt d m
  out : ∀ p, (p < k ∨ m < p) → gt d' p = gt d p
  len : d'.length = d.length
  perm : d'.Perm d
theorem Down.start (m : Nat) (d : List Int) : Down m m d d := ⟨fun p h1 h2 => by omega, rfl, fun _ _ => rfl, rfl, List.Perm.refl _⟩
theorem Down.step {m k : Nat} {d d' : List Int} (h : Down m (k + 1) d d') (hk : k + 1 ≤ m) (hl : m < d.length) : Down m k d (swp d' (k + 1) k) := by
  have hl' := h.len
  have g := fun p => gt_swp d' (k + 1) k p (by omega) (by omega)
  refine ⟨fun p p1 p2 => ?_, ?_, fun p hp => ?_, (swp_len _ _ _).trans h.len, (swp_perm _ _ _ (by omega) (by omega)).trans h.perm⟩
  · rw [g, if_neg (by omega)]
    by_cases e : p = k + 1
    · subst e; rw [if_pos rfl]; exact h.out _ (by omega)
    · rw [if_neg e]; exact h.behind p (by omega) p2
  · rw [g, if_pos rfl]; exact h.here
  · rw [g, if_neg (by omega), if_neg (by omega)]; exact h.out p (by omega)
theorem Down.pin {m k : Nat} {d d' : List Int} (h : Down m k d d') (hk : k ≤ m) {a b : Nat} (ha : a ≤ k) (hb : m < b) : PIn a b d d' :=
  ⟨h.len, fun p hp => h.out p (by omega), fun p p1 p2 => by
    by_cases e1 : k < p ∧ p ≤ m
    · exact ⟨p - 1, by omega, by omega, h.behind p e1.1 e1.2⟩
    · by_cases e2 : p = k
      · subst e2; exact ⟨m, by omega, by omega, h.here⟩
      · exact ⟨p, p1, p2, h.out p (by omega)⟩, h.perm⟩
theorem Down.sorted {f : Int → Int} {a m i : Nat} {d d' : List Int} (hs : Srt f a m d) (hc : Crs a m (m + 1) d) (hi : Bse a m (fun h => f (gt d h) < f (gt d m)) i i) (h : Down m i d d') : Srt f a (m + 1) d' := by
  obtain ⟨b1, _, b3, b4, b5⟩ := hi
  have L : ∀ p, a ≤ p → p < i → Rk f (gt d p) (gt d m) := fun p p1 p2 => by
    have hl : Rk f (gt d (i - 1)) (gt d m) := by
      have hx := hc (i - 1) m (by omega) (by omega) (by omega) (by omega)
      rcases b4 with h | h
      · omega
      · unfold Rk; omega
    by_cases e : p = i - 1
    · subst e; exact hl
    · exact (hs p (i - 1) p1 (by omega) (by omega)).trans hl
  have H : ∀ p, i ≤ p → p < m → Rk f (gt d m) (gt d p) := fun p p1 p2 => by
    have hl : Rk f (gt d m) (gt d i) := by
      rcases b5 with h | h
      · omega
      · exact .inl h
    by_cases e : p = i
    · subst e; exact hl
    · exact hl.trans (hs i p b1 (by omega) p2)
  intro p q p1 p2 p3
  by_cases hp : p < i
  · rw [h.out p (by omega)]
    by_cases hq : q < i
    · rw [h.out q (by omega)]; exact hs _ _ (by omega) (by omega) (by omega)
    · by_cases e : q = i
      · subst e; rw [h.here]; exact L _ (by omega) (by omega)
      · rw [h.behind q (by omega) (by omega)]; exact hs _ _ (by omega) (by omega) (by omega)
  · by_cases e : p = i
    · subst e; rw [h.here, h.behind q (by omega) (by omega)]; exact H _ (by omega) (by omega)
    · rw [h.behind p (by omega) (by omega), h.behind q (by omega) (by omega)]; exact hs _ _ (by omega) (by omega) (by omega)

/-- Insertion under way: all of a .. i but the one at j are sorted, it stands ahead of those behind it; it is the greatest of all. -/
structure Ins (f : Int → Int) (a i j : Nat) (d : List Int) : Prop where
  rest : ∀ p q, a ≤ p → p < q → q ≤ i → p ≠ j → q ≠ j → Rk f (gt d p) (gt d q)
  behind : ∀ q, j < q → q ≤ i → Rk f (gt d j) (gt d q)
  most : ∀ p, a ≤ p → p ≤ i → p ≠ j → gt d p < gt d j
theorem Ins.start {f : Int → Int} {a i : Nat} {d : List Int} (h : Srt f a i d) (hm : ∀ p, a ≤ p → p < i → gt d p < gt d i) : Ins f a i i d :=
  ⟨fun p q p1 p2 p3 p4 p5 => h p q p1 p2 (by omega), fun q h1 h2 => by omega, fun p p1 p2 p3 => hm p p1 (by omega)⟩
theorem Ins.step {f : Int → Int} {a i j : Nat} {d : List Int} (h : Ins f a i (j + 1) d) (haj : a ≤ j) (hji : j + 1 ≤ i) (hl : i < d.length) (hlt : f (gt d j) < f (gt d (j + 1))) : Ins f a i j (swp d (j + 1) j) := by
  have g := fun p => gt_swp d (j + 1) j p (by omega) (by omega)
  have gj : gt (swp d (j + 1) j) j = gt d (j + 1) := by rw [g, if_pos rfl]
  have gj1 : gt (swp d (j + 1) j) (j + 1) = gt d j := by rw [g, if_neg (by omega), if_pos rfl]
  have go : ∀ p, p ≠ j → p ≠ j + 1 → gt (swp d (j + 1) j) p = gt d p := fun p h1 h2 => by rw [g, if_neg h1, if_neg h2]
  refine ⟨fun p q p1 p2 p3 p4 p5 => ?_, fun q q1 q2 => ?_, fun p p1 p2 p3 => ?_⟩
  · by_cases e1 : p = j + 1
    · subst e1; rw [gj1, go q (by omega) (by omega)]; exact h.rest j q haj (by omega) p3 (by omega) (by omega)
    · rw [go p p4 e1]
      by_cases e2 : q = j + 1
      · subst e2; rw [gj1]; exact h.rest p j p1 (by omega) (by omega) (by omega) (by omega)
      · rw [go q p5 e2]; exact h.rest p q p1 p2 p3 e1 e2
  · rw [gj]
    by_cases e : q = j + 1
    · subst e; rw [gj1]; exact .inl hlt
    · rw [go q (by omega) e]; exact h.behind q (by omega) q2
  · rw [gj]
    by_cases e : p = j + 1
    · subst e; rw [gj1]; exact h.most j haj (by omega) (by omega)
    · rw [go p p3 e]; exact h.most p p1 p2 e
theorem Ins.stop {f : Int → Int} {a i j : Nat} {d : List Int} (h : Ins f a i j d) (haj : a ≤ j) (hji : j ≤ i) (hs : j = a ∨ ¬ f (gt d (j - 1)) < f (gt d j)) : Srt f a (i + 1) d := by
  intro p q p1 p2 p3
  by_cases e1 : p = j
  · subst e1; exact h.behind q p2 (by omega)
  · by_cases e2 : q = j
    · subst e2
      have hl : Rk f (gt d (q - 1)) (gt d q) := by
        have := h.most (q - 1) (by omega) (by omega) (by omega)
        rcases hs with h | h
        · omega
        · unfold Rk; omega
      by_cases e3 : p = q - 1
      · subst e3; exact hl
      · exact (h.rest p (q - 1) p1 (by omega) (by omega) e1 (by omega)).trans hl
    · exact h.rest p q p1 p2 (by omega) e1 e2
/-- Each place of a .. b holds a number of a .. b. -/
def Own (a b : Nat) (d : List Int) : Prop := ∀ p, a ≤ p → p < b → (a : Int) ≤ gt d p ∧ gt d p < b
theorem Own.pin {a b : Nat} {d d' : List Int} (h : Own a b d) (hp : PIn a b d d') : Own a b d' := fun p p1 p2 => by
  obtain ⟨q, q1, q2, e⟩ := hp.mem p p1 p2
  rw [e]; exact h q q1 q2
theorem Own.crs {a m b : Nat} {d : List Int} (h1 : Own a m d) (h2 : Own m b d) : Crs a m b d := fun p q p1 p2 q1 q2 => by
  have := h1 p p1 p2; have := h2 q q1 q2; omega
theorem Own.join {a m b : Nat} {d : List Int} (h1 : Own a m d) (h2 : Own m b d) (ha : a ≤ m) (hb : m ≤ b) : Own a b d := fun p p1 p2 => by
  by_cases e : p < m
  · have := h1 p p1 e; omega
  · have := h2 p (by omega) p2; omega
theorem Own.same {a b : Nat} {d d' : List Int} (h : Own a b d) (he : ∀ p, a ≤ p → p < b → gt d' p = gt d p) : Own a b d' := fun p p1 p2 => by rw [he p p1 p2]; exact h p p1 p2
end Go.Proofs.Ytjimahagfkpacaa
