/- Merged lists: how long they are; of two lists, either way round. -/
import Derived.Test.YtfcemlcocdhmfaaMB
namespace Go.Proofs.Ytfcemlcocdhmfaa
set_option linter.unusedVariables false
set_option linter.unusedSimpArgs false

theorem atS_len (seq : Int) : ∀ (l : List Rc) (d : Option (List UInt8)), (atS seq d l).length ≤ l.length
  | [], d => by simp [atS]
  | r :: l, d => by
    rw [atS]
    split
    · have := atS_len seq l d; simp; omega
    · have := atS_len seq l (some r.key); split <;> simp <;> omega
section
variable {α : Type} {o : α → α → Int}
theorem twoG_len : ∀ (xs bs : List α), (two o xs bs).length ≤ xs.length + bs.length
  | [], bs => by simp [two]
  | a :: xs, [] => by simp [two]
  | a :: xs, b :: bs => by
    rw [two]
    have h1 := twoG_len xs (b :: bs); have h2 := twoG_len (a :: xs) bs; have h3 := twoG_len xs bs
    simp only [List.length_cons] at h1 h2 ⊢
    split
    · simp only [List.length_cons]; omega
    · split <;> simp only [List.length_cons] <;> omega
termination_by xs bs => xs.length + bs.length
theorem two_nr (l : List α) : two o l [] = l := by cases l <;> simp [two]
theorem two_nl (l : List α) : two o [] l = l := by cases l <;> simp [two]
theorem merge_ex (T : TO o) : ∀ (n : Nat) (L : List (List α)), n ≤ L.length → (∀ l ∈ L, Srt o l) → ∃ out, IsMerge o (L.take n) out ∧ out.length ≤ ((L.take n).map List.length).sum
  | 0, L, _, _ => ⟨[], by rw [List.take_zero]; exact merge_nil, by simp⟩
  | n + 1, L, hn, hs => by
    obtain ⟨out, h1, h2⟩ := merge_ex T n L (by omega) hs
    have hl : n < L.length := by omega
    refine ⟨two o out L[n], ?_, ?_⟩
    · rw [List.take_succ_eq_append_getElem hl]; exact h1.snoc T (hs _ (List.getElem_mem hl))
    · have := twoG_len (o := o) out L[n]
      rw [List.take_succ_eq_append_getElem hl, List.map_append, List.sum_append]
      simp only [List.map_cons, List.map_nil, List.sum_cons, List.sum_nil]; omega
theorem merge_len (T : TO o) {L : List (List α)} {out : List α} (h : IsMerge o L out) (hs : ∀ l ∈ L, Srt o l) : out.length ≤ (L.map List.length).sum := by
  obtain ⟨out', h1, h2⟩ := merge_ex T L.length L (Nat.le_refl _) hs
  rw [List.take_length] at h1 h2
  rw [IsMerge.one T h h1]; exact h2
theorem merge2 (T : TO o) {a b out : List α} (h : IsMerge o [a, b] out) (ha : Srt o a) (hb : Srt o b) : out = two o a b := by
  have h1 : IsMerge o [a] a := by
    have := (merge_nil (o := o)).snoc T ha; rwa [two_nl] at this
  exact IsMerge.one T h (h1.snoc T hb)
theorem merge_one (T : TO o) {a out : List α} (h : IsMerge o [[], a, []] out) (ha : Srt o a) : out = a := by
  have h0 : IsMerge o [[]] [] := by
    have := (merge_nil (o := o)).snoc T (l := []) List.Pairwise.nil; rwa [two_nl] at this
  have h1 : IsMerge o [[], a] a := by
    have := h0.snoc T ha; rwa [two_nl] at this
  have h2 : IsMerge o [[], a, []] a := by
    have := h1.snoc T (l := []) List.Pairwise.nil; rwa [two_nr] at this
  exact IsMerge.one T h h2
/-- Where nothing was left out, nothing is the same. -/
theorem two_all (T : TO o) : ∀ (a b : List α), Srt o a → Srt o b → a.length + b.length ≤ (two o a b).length → ∀ r ∈ b, ∀ r' ∈ a, o r' r ≠ 0
  | [], b, _, _, _ => by simp
  | x :: a, [], _, _, _ => by simp
  | x :: a, y :: b, ha, hb, h => by
    have ha' := List.pairwise_cons.1 ha
    have hb' := List.pairwise_cons.1 hb
    rw [two] at h
    by_cases h1 : o x y < 0
    · rw [if_pos h1] at h
      have ih := two_all T a (y :: b) ha'.2 hb (by simp only [List.length_cons] at h ⊢; omega)
      intro r hr r' hr'
      rcases List.mem_cons.1 hr' with e | hr'
      · rw [e]
        rcases List.mem_cons.1 hr with e2 | hr
        · rw [e2]; omega
        · have := T.trans _ _ _ h1 (hb'.1 r hr); omega
      · exact ih r hr r' hr'
    · rw [if_neg h1] at h
      by_cases h2 : o y x < 0
      · rw [if_pos h2] at h
        have ih := two_all T (x :: a) b ha hb'.2 (by simp only [List.length_cons] at h ⊢; omega)
        intro r hr r' hr'
        rcases List.mem_cons.1 hr with e | hr
        · rw [e]
          intro e0
          have e1 := T.symm e0
          rcases List.mem_cons.1 hr' with e2 | hr'
          · rw [e2] at e1; omega
          · have := T.trans _ _ _ h2 (ha'.1 r' hr'); omega
        · exact ih r hr r' hr'
      · rw [if_neg h2] at h
        have := twoG_len (o := o) a b
        simp only [List.length_cons] at h; omega
termination_by a b => a.length + b.length
theorem two_swap (T : TO o) {a b : List α} (ha : Srt o a) (hb : Srt o b) (h : ∀ r ∈ b, ∀ r' ∈ a, o r' r ≠ 0) : two o a b = two o b a := by
  obtain ⟨s1, m1⟩ := two_mem T a b ha hb
  obtain ⟨s2, m2⟩ := two_mem T b a hb ha
  refine T.ext s1 s2 fun r => ?_
  rw [m1, m2]
  constructor
  · rintro (h1 | ⟨h1, _⟩)
    · exact .inr ⟨h1, fun r' hr' e => h r' hr' r h1 (T.symm e)⟩
    · exact .inl h1
  · rintro (h1 | ⟨h1, _⟩)
    · exact .inr ⟨h1, fun r' hr' => h r h1 r' hr'⟩
    · exact .inl h1
end
/-- A record without what does not order it. -/
def rc0 (r : Rc) : Rc := ⟨r.key, r.seq, false, []⟩
theorem ord_rc0 (a b : Rc) : ord2 (rc0 a) (rc0 b) = ord2 a b := rfl
theorem srt_rc0 {l : List Rc} (h : Srt ord2 l) : Srt ord2 (l.map rc0) := List.pairwise_map.2 (h.imp fun h => h)
theorem mem_rc0 {a b : List Rc} (ha : Srt ord2 a) (hb : Srt ord2 b) (x : Rc) : x ∈ (two ord2 a b).map rc0 ↔ x ∈ a.map rc0 ∨ x ∈ b.map rc0 := by
  obtain ⟨s1, m1⟩ := two_mem toOrd a b ha hb
  simp only [List.mem_map]
  constructor
  · rintro ⟨r, h1, h2⟩
    rcases (m1 r).1 h1 with h | ⟨h, _⟩
    · exact .inl ⟨r, h, h2⟩
    · exact .inr ⟨r, h, h2⟩
  · rintro (⟨r, h1, h2⟩ | ⟨r, h1, h2⟩)
    · exact ⟨r, (m1 r).2 (.inl h1), h2⟩
    · by_cases hx : ∃ r' ∈ a, ord2 r' r = 0
      · obtain ⟨r', g1, g2⟩ := hx
        obtain ⟨g3, g4⟩ := (ord_eq r' r).1 g2
        exact ⟨r', (m1 r').2 (.inl g1), by rw [← h2]; unfold rc0; rw [g3, g4]⟩
      · exact ⟨r, (m1 r).2 (.inr ⟨h1, fun r' hr' e => hx ⟨r', hr', e⟩⟩), h2⟩
theorem two_len_swap {a b : List Rc} (ha : Srt ord2 a) (hb : Srt ord2 b) : (two ord2 a b).length = (two ord2 b a).length := by
  have : (two ord2 a b).map rc0 = (two ord2 b a).map rc0 := by
    refine toOrd.ext (srt_rc0 (two_mem toOrd a b ha hb).1) (srt_rc0 (two_mem toOrd b a hb ha).1) fun x => ?_
    rw [mem_rc0 ha hb, mem_rc0 hb ha]; exact Or.comm
  simpa using congrArg List.length this
/-- Where no record of one list stands in the other one. -/
theorem two_apart {a b : List Rc} (ha : Srt ord2 a) (hb : Srt ord2 b) (h : ∀ r ∈ b, ∀ r' ∈ a, ord2 r' r ≠ 0) : Srt ord2 (two ord2 a b) ∧ ∀ r, r ∈ two ord2 a b ↔ r ∈ a ∨ r ∈ b := by
  obtain ⟨s1, m1⟩ := two_mem toOrd a b ha hb
  refine ⟨s1, fun r => (m1 r).trans ⟨?_, ?_⟩⟩
  · rintro (h1 | ⟨h1, _⟩); exact .inl h1; exact .inr h1
  · rintro (h1 | h1); exact .inl h1; exact .inr ⟨h1, fun r' hr' => h r h1 r' hr'⟩
end Go.Proofs.Ytfcemlcocdhmfaa
