/- Lists in order, merged: in plain words. A total order that may hold two things equal; which merged list is the right one; two lists in one; the least ones one by one. -/
import Derived.Test.YtfcemlcocdhmfaaW
namespace Go.Proofs.Ytfcemlcocdhmfaa
set_option linter.unusedVariables false
set_option linter.unusedSimpArgs false

structure TO {α : Type} (o : α → α → Int) : Prop where
  refl : ∀ a, o a a = 0
  flip : ∀ a b, o a b < 0 ↔ 0 < o b a
  trans : ∀ a b c, o a b < 0 → o b c < 0 → o a c < 0
  left : ∀ a b c, o a b = 0 → (o a c < 0 ↔ o b c < 0)
section
variable {α : Type} {o : α → α → Int} (T : TO o)
include T
theorem TO.symm {a b : α} (h : o a b = 0) : o b a = 0 := by
  have h1 := T.flip a b; have h2 := T.flip b a; omega
theorem TO.right {a b c : α} (h : o b c = 0) : o a b < 0 ↔ o a c < 0 := by
  have h1 := T.flip a b; have h2 := T.flip a c; have h3 := T.flip b a; have h4 := T.flip c a
  have l := T.left b c a h
  have l2 : 0 < o b a ↔ 0 < o c a := by
    constructor
    · intro h5
      have : ¬ o b a < 0 := by omega
      rcases Int.lt_trichotomy (o c a) 0 with h6 | h6 | h6
      · exact absurd (l.2 h6) this
      · have h7 := T.symm h6
        have := (T.left c a b h6)
        have h8 := T.left a c b h7
        have h9 := T.symm h
        omega
      · exact h6
    · intro h5
      have : ¬ o c a < 0 := by omega
      rcases Int.lt_trichotomy (o b a) 0 with h6 | h6 | h6
      · exact absurd (l.1 h6) this
      · have h7 := T.symm h6
        have := (T.left b a c h6)
        have h8 := T.left a b c h7
        omega
      · exact h6
  omega
theorem TO.eq_trans {a b c : α} (h1 : o a b = 0) (h2 : o b c = 0) : o a c = 0 := by
  have l := T.left a b c h1
  have r := T.right (a := c) (T.symm h1)
  have f := T.flip c a; have f2 := T.flip c b
  have f3 := T.flip a c; have f4 := T.flip b c
  omega
theorem TO.le_trans {a b c : α} (h1 : o a b ≤ 0) (h2 : o b c ≤ 0) : o a c ≤ 0 := by
  by_cases h3 : o a b = 0
  · by_cases h4 : o b c = 0
    · have := T.eq_trans h3 h4; omega
    · have := (T.left a b c h3).2 (by omega); omega
  · by_cases h4 : o b c = 0
    · have := (T.right (a := a) h4).1 (by omega); omega
    · have := T.trans a b c (by omega) (by omega); omega
theorem TO.lt_le {a b c : α} (h1 : o a b < 0) (h2 : o b c ≤ 0) : o a c < 0 := by
  by_cases h4 : o b c = 0
  · exact (T.right (a := a) h4).1 h1
  · exact T.trans a b c h1 (by omega)
theorem TO.le_lt {a b c : α} (h1 : o a b ≤ 0) (h2 : o b c < 0) : o a c < 0 := by
  by_cases h4 : o a b = 0
  · exact (T.left a b c h4).2 h2
  · exact T.trans a b c (by omega) h2
/-- Sorted lists with the same members are the same. -/
theorem TO.ext : ∀ {l m : List α}, l.Pairwise (fun a b => o a b < 0) → m.Pairwise (fun a b => o a b < 0) → (∀ x, x ∈ l ↔ x ∈ m) → l = m
  | [], [], _, _, _ => rfl
  | [], b :: m, _, _, h => absurd ((h b).2 (by simp)) (by simp)
  | a :: l, [], _, _, h => absurd ((h a).1 (by simp)) (by simp)
  | a :: l, b :: m, hl, hm, h => by
    rw [List.pairwise_cons] at hl hm
    have e : a = b := by
      rcases List.mem_cons.1 ((h a).1 (by simp)) with h1 | h1
      · exact h1
      · rcases List.mem_cons.1 ((h b).2 (by simp)) with h2 | h2
        · exact h2.symm
        · have h3 := hm.1 a h1; have h4 := hl.1 b h2
          have := (T.flip a b).1 h4; omega
    subst e
    have ha : ∀ x ∈ l, x ≠ a := fun x hx e => by have := hl.1 x hx; rw [e, T.refl] at this; omega
    have hb : ∀ x ∈ m, x ≠ a := fun x hx e => by have := hm.1 x hx; rw [e, T.refl] at this; omega
    rw [TO.ext hl.2 hm.2 (fun x => ⟨fun hx => ?_, fun hx => ?_⟩)]
    · rcases List.mem_cons.1 ((h x).1 (List.mem_cons_of_mem _ hx)) with h1 | h1
      · exact absurd h1 (ha x hx)
      · exact h1
    · rcases List.mem_cons.1 ((h x).2 (List.mem_cons_of_mem _ hx)) with h1 | h1
      · exact absurd h1 (hb x hx)
      · exact h1
end
/-- Of equal ones the one of the first list. -/
def First {α : Type} (o : α → α → Int) (ls : List (List α)) (r : α) : Prop := ∃ (p : Nat) (l : List α), ls[p]? = some l ∧ r ∈ l ∧ ∀ (p' : Nat) (l' : List α), p' < p → ls[p']? = some l' → ∀ r' ∈ l', o r' r ≠ 0
abbrev Srt {α : Type} (o : α → α → Int) (l : List α) : Prop := l.Pairwise (fun a b => o a b < 0)
structure IsMerge {α : Type} (o : α → α → Int) (ls : List (List α)) (out : List α) : Prop where
  srt : Srt o out
  mem : ∀ r, r ∈ out ↔ First o ls r
theorem IsMerge.one {α : Type} {o : α → α → Int} (T : TO o) {ls : List (List α)} {a b : List α} (h : IsMerge o ls a) (h' : IsMerge o ls b) : a = b := T.ext h.srt h'.srt (fun x => (h.mem x).trans (h'.mem x).symm)
/-- Whatever is in a list has its equal among the first ones. -/
theorem first_ex {α : Type} {o : α → α → Int} (T : TO o) (ls : List (List α)) : ∀ (p : Nat) (l : List α) (r : α), ls[p]? = some l → r ∈ l → ∃ r', First o ls r' ∧ o r' r = 0 ∧ ∃ p' l', p' ≤ p ∧ ls[p']? = some l' ∧ r' ∈ l' := by
  intro p
  induction p using Nat.strongRecOn with
  | _ p ih =>
    intro l r hl hr
    by_cases h : ∃ p' l' r', p' < p ∧ ls[p']? = some l' ∧ r' ∈ l' ∧ o r' r = 0
    · obtain ⟨p', l', r', h1, h2, h3, h4⟩ := h
      obtain ⟨r2, g1, g2, p2, l2, g3, g4, g5⟩ := ih p' h1 l' r' h2 h3
      exact ⟨r2, g1, T.eq_trans g2 h4, p2, l2, by omega, g4, g5⟩
    · exact ⟨r, ⟨p, l, hl, hr, fun p' l' h1 h2 r' h3 h4 => h ⟨p', l', r', h1, h2, h3, h4⟩⟩, T.refl r, p, l, Nat.le_refl _, hl, hr⟩

/-- Two lists in one, as the document does it. -/
def two {α : Type} (o : α → α → Int) : List α → List α → List α
  | [], b => b
  | a, [] => a
  | x :: a, y :: b => if o x y < 0 then x :: two o a (y :: b) else if o y x < 0 then y :: two o (x :: a) b else x :: two o a b
termination_by a b => a.length + b.length
section
variable {α : Type} {o : α → α → Int}
theorem two_mem (T : TO o) : ∀ (a b : List α), Srt o a → Srt o b → Srt o (two o a b) ∧ ∀ r, r ∈ two o a b ↔ r ∈ a ∨ r ∈ b ∧ ∀ r' ∈ a, o r' r ≠ 0
  | [], b, ha, hb => by
    rw [two]; exact ⟨hb, fun r => by simp⟩
  | x :: a, [], ha, hb => by
    rw [two]; exact ⟨ha, fun r => by simp⟩
    simp
  | x :: a, y :: b, ha, hb => by
    have ha' := List.pairwise_cons.1 ha
    have hb' := List.pairwise_cons.1 hb
    rw [two]
    by_cases h1 : o x y < 0
    · rw [if_pos h1]
      obtain ⟨s, m⟩ := two_mem T a (y :: b) ha'.2 hb
      refine ⟨List.pairwise_cons.2 ⟨fun r hr => ?_, s⟩, fun r => ?_⟩
      · rcases (m r).1 hr with h | ⟨h, _⟩
        · exact ha'.1 r h
        · rcases List.mem_cons.1 h with rfl | h
          · exact h1
          · exact T.trans _ _ _ h1 (hb'.1 r h)
      · rw [List.mem_cons, m r, List.mem_cons (a := r) (b := x) (l := a)]
        constructor
        · rintro (h | h | ⟨h2, h3⟩)
          · exact .inl (.inl h)
          · exact .inl (.inr h)
          · refine .inr ⟨h2, fun r' hr' => ?_⟩
            rcases List.mem_cons.1 hr' with rfl | hr'
            · rcases List.mem_cons.1 h2 with rfl | h2
              · omega
              · have := T.trans _ _ _ h1 (hb'.1 r h2); omega
            · exact h3 r' hr'
        · rintro ((h | h) | ⟨h2, h3⟩)
          · exact .inl h
          · exact .inr (.inl h)
          · exact .inr (.inr ⟨h2, fun r' hr' => h3 r' (List.mem_cons_of_mem _ hr')⟩)
    · rw [if_neg h1]
      by_cases h2 : o y x < 0
      · rw [if_pos h2]
        obtain ⟨s, m⟩ := two_mem T (x :: a) b ha hb'.2
        refine ⟨List.pairwise_cons.2 ⟨fun r hr => ?_, s⟩, fun r => ?_⟩
        · rcases (m r).1 hr with h | ⟨h, _⟩
          · rcases List.mem_cons.1 h with rfl | h
            · exact h2
            · exact T.trans _ _ _ h2 (ha'.1 r h)
          · exact hb'.1 r h
        · rw [List.mem_cons, m r, List.mem_cons (a := r) (b := y) (l := b)]
          constructor
          · rintro (rfl | h | ⟨h3, h4⟩)
            · refine .inr ⟨.inl rfl, fun r' hr' => ?_⟩
              have f := (T.flip r x).1 h2
              rcases List.mem_cons.1 hr' with rfl | hr'
              · omega
              · have := T.trans _ _ _ h2 (ha'.1 r' hr')
                have := (T.flip r r').1 this; omega
            · exact .inl h
            · exact .inr ⟨.inr h3, h4⟩
          · rintro (h | ⟨h | h3, h4⟩)
            · exact .inr (.inl h)
            · exact .inl h
            · exact .inr (.inr ⟨h3, h4⟩)
      · rw [if_neg h2]
        have h0 : o x y = 0 := by have := T.flip y x; omega
        obtain ⟨s, m⟩ := two_mem T a b ha'.2 hb'.2
        refine ⟨List.pairwise_cons.2 ⟨fun r hr => ?_, s⟩, fun r => ?_⟩
        · rcases (m r).1 hr with h | ⟨h, _⟩
          · exact ha'.1 r h
          · exact (T.left _ _ _ h0).2 (hb'.1 r h)
        · rw [List.mem_cons, m r, List.mem_cons (a := r) (b := x) (l := a), List.mem_cons (a := r) (b := y) (l := b)]
          constructor
          · rintro (h | h | ⟨h3, h4⟩)
            · exact .inl (.inl h)
            · exact .inl (.inr h)
            · refine .inr ⟨.inr h3, fun r' hr' => ?_⟩
              rcases List.mem_cons.1 hr' with rfl | hr'
              · have := (T.left _ _ _ h0).2 (hb'.1 r h3); omega
              · exact h4 r' hr'
          · rintro ((h | h) | ⟨h | h3, h4⟩)
            · exact .inl h
            · exact .inr (.inl h)
            · subst h; exact absurd h0 (h4 x (by simp))
            · exact .inr (.inr ⟨h3, fun r' hr' => h4 r' (List.mem_cons_of_mem _ hr')⟩)
termination_by a b => a.length + b.length
theorem merge_nil : IsMerge o ([] : List (List α)) [] := ⟨List.Pairwise.nil, fun r => by simp [First]⟩
theorem getElem?_snoc (ls : List (List α)) (l : List α) (p : Nat) : (ls ++ [l])[p]? = if p < ls.length then ls[p]? else if p = ls.length then some l else none := by
  split
  · exact List.getElem?_append_left (by assumption)
  · split
    · rename_i h; subst h; simp
    · exact List.getElem?_eq_none (by simp; omega)
/-- One list more. -/
theorem IsMerge.snoc (T : TO o) {ls : List (List α)} {acc l : List α} (h : IsMerge o ls acc) (hl : Srt o l) : IsMerge o (ls ++ [l]) (two o acc l) := by
  obtain ⟨s, m⟩ := two_mem T acc l h.srt hl
  refine ⟨s, fun r => (m r).trans ?_⟩
  constructor
  · rintro (h1 | ⟨h1, h2⟩)
    · obtain ⟨p, l', a1, a2, a3⟩ := (h.mem r).1 h1
      have hp : p < ls.length := (List.getElem?_eq_some_iff.1 a1).1
      refine ⟨p, l', by rw [getElem?_snoc, if_pos hp]; exact a1, a2, fun p' l'' hp' hl'' => ?_⟩
      rw [getElem?_snoc, if_pos (by omega)] at hl''
      exact a3 p' l'' hp' hl''
    · refine ⟨ls.length, l, by rw [getElem?_snoc, if_neg (Nat.lt_irrefl _), if_pos rfl], h1, fun p' l' hp' hl' r' hr' e => ?_⟩
      rw [getElem?_snoc, if_pos hp'] at hl'
      obtain ⟨r2, g1, g2, _⟩ := first_ex T ls p' l' r' hl' hr'
      exact h2 r2 ((h.mem r2).2 g1) (T.eq_trans g2 e)
  · rintro ⟨p, l', a1, a2, a3⟩
    rw [getElem?_snoc] at a1
    split at a1
    · rename_i hp
      refine .inl ((h.mem r).2 ⟨p, l', a1, a2, fun p' l'' hp' hl'' => a3 p' l'' hp' (by rw [getElem?_snoc, if_pos (by omega)]; exact hl'')⟩)
    · split at a1
      · rename_i h1 hp
        cases a1
        refine .inr ⟨a2, fun r' hr' => ?_⟩
        obtain ⟨p', l'', b1, b2, b3⟩ := (h.mem r').1 hr'
        have hp' : p' < ls.length := (List.getElem?_eq_some_iff.1 b1).1
        exact a3 p' l'' (by omega) (by rw [getElem?_snoc, if_pos hp']; exact b1) r' b2
      · cases a1
end
end Go.Proofs.Ytfcemlcocdhmfaa
