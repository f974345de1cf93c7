/- Lists in order, merged, and heaps: in plain words. -/
import Derived.Test.YtfcemlcocdhmfaaW
/- Lists in order, merged: in plain words. A total order that may hold two things equal; which merged list is the right one; two lists in one; the least ones one by one. -/
namespace Go.Proofs.Ytfcemlcocdhmfaa
set_option linter.unusedVariables false
set_option linter.unusedSimpArgs false

structure TO {α : Type} (o : α → α → Int) : Prop where
  refl : ∀ a, o a a = 0
  flip : ∀ a b, o a b < 0 ↔ 0 < o b a
  trans : ∀ a b c, o a b < 0 → o b c < 0 → o a c < 0
  left : ∀ a b c, o a b = 0 → (o a c < 0 ↔ o b c < 0)
section
variable {α : Type} {o : α → α → Int} (T : TO o)
include T
theorem TO.symm {a b : α} (h : o a b = 0) : o b a = 0 := by
  have h1 := T.flip a b; have h2 := T.flip b a; omega
theorem TO.right {a b c : α} (h : o b c = 0) : o a b < 0 ↔ o a c < 0 := by
  have h1 := T.flip a b; have h2 := T.flip a c; have h3 := T.flip b a; have h4 := T.flip c a
  have l := T.left b c a h
  have l2 : 0 < o b a ↔ 0 < o c a := by
    constructor
    · intro h5
      have : ¬ o b a < 0 := by omega
      rcases Int.lt_trichotomy (o c a) 0 with h6 | h6 | h6
      · exact absurd (l.2 h6) this
      · have h7 := T.symm h6
        have := (T.left c a b h6)
        have h8 := T.left a c b h7
        have h9 := T.symm h
        omega
      · exact h6
    · intro h5
      have : ¬ o c a < 0 := by omega
      rcases Int.lt_trichotomy (o b a) 0 with h6 | h6 | h6
      · exact absurd (l.1 h6) this
      · have h7 := T.symm h6
        have := (T.left b a c h6)
        have h8 := T.left a b c h7
        omega
      · exact h6
  omega
theorem TO.eq_trans {a b c : α} (h1 : o a b = 0) (h2 : o b c = 0) : o a c = 0 := by
  have l := T.left a b c h1
  have r := T.right (a := c) (T.symm h1)
  have f := T.flip c a; have f2 := T.flip c b
  have f3 := T.flip a c; have f4 := T.flip b c
  omega
theorem TO.le_trans {a b c : α} (h1 : o a b ≤ 0) (h2 : o b c ≤ 0) : o a c ≤ 0 := by
  by_cases h3 : o a b = 0
  · by_cases h4 : o b c = 0
    · have := T.eq_trans h3 h4; omega
    · have := (T.left a b c h3).2 (by omega); omega
  · by_cases h4 : o b c = 0
    · have := (T.right (a := a) h4).1 (by omega); omega
    · have := T.trans a b c (by omega) (by omega); omega
theorem TO.lt_le {a b c : α} (h1 : o a b < 0) (h2 : o b c ≤ 0) : o a c < 0 := by
  by_cases h4 : o b c = 0
  · exact (T.right (a := a) h4).1 h1
  · exact T.trans a b c h1 (by omega)
theorem TO.le_lt {a b c : α} (h1 : o a b ≤ 0) (h2 : o b c < 0) : o a c < 0 := by
  by_cases h4 : o a b = 0
  · exact (T.left a b c h4).2 h2
  · exact T.trans a b c (by omega) h2
/-- Sorted lists with the same members are the same. -/
theorem TO.ext : ∀ {l m : List α}, l.Pairwise (fun a b => o a b < 0) → m.Pairwise (fun a b => o a b < 0) → (∀ x, x ∈ l ↔ x ∈ m) → l = m
  | [], [], _, _, _ => rfl
  | [], b :: m, _, _, h => absurd ((h b).2 (by simp)) (by simp)
  | a :: l, [], _, _, h => absurd ((h a).1 (by simp)) (by simp)
  | a :: l, b :: m, hl, hm, h => by
    rw [List.pairwise_cons] at hl hm
    have e : a = b := by
      rcases List.mem_cons.1 ((h a).1 (by simp)) with h1 | h1
      · exact h1
      · rcases List.mem_cons.1 ((h b).2 (by simp)) with h2 | h2
        · exact h2.symm
        · have h3 := hm.1 a h1; have h4 := hl.1 b h2
          have := (T.flip a b).1 h4; omega
    subst e
    have ha : ∀ x ∈ l, x ≠ a := fun x hx e => by have := hl.1 x hx; rw [e, T.refl] at this; omega
    have hb : ∀ x ∈ m, x ≠ a := fun x hx e => by have := hm.1 x hx; rw [e, T.refl] at this; omega
    rw [TO.ext hl.2 hm.2 (fun x => ⟨fun hx => ?_, fun hx => ?_⟩)]
    · rcases List.mem_cons.1 ((h x).1 (List.mem_cons_of_mem _ hx)) with h1 | h1
      · exact absurd h1 (ha x hx)
      · exact h1
    · rcases List.mem_cons.1 ((h x).2 (List.mem_cons_of_mem _ hx)) with h1 | h1
      · exact absurd h1 (hb x hx)
      · exact h1
end
/-- Of equal ones the one of the first list. -/
def First {α : Type} (o : α → α → Int) (ls : List (List α)) (r : α) : Prop := ∃ (p : Nat) (l : List α), ls[p]? = some l ∧ r ∈ l ∧ ∀ (p' : Nat) (l' : List α), p' < p → ls[p']? = some l' → ∀ r' ∈ l', o r' r ≠ 0
abbrev Srt {α : Type} (o : α → α → Int) (l : List α) : Prop := l.Pairwise (fun a b => o a b < 0)
structure IsMerge {α : Type} (o : α → α → Int) (ls : List (List α)) (out : List α) : Prop where
  srt : Srt o out
  mem : ∀ r, r ∈ out ↔ First o ls r
theorem IsMerge.one {α : Type} {o : α → α → Int} (T : TO o) {ls : List (List α)} {a b : List α} (h : IsMerge o ls a) (h' : IsMerge o ls b) : a = b := T.ext h.srt h'.srt (fun x => (h.mem x).trans (h'.mem x).symm)
/-- Whatever is in a list has its equal among the first ones. -/
theorem first_ex {α : Type} {o : α → α → Int} (T : TO o) (ls : List (List α)) : ∀ (p : Nat) (l : List α) (r : α), ls[p]? = some l → r ∈ l → ∃ r', First o ls r' ∧ o r' r = 0 ∧ ∃ p' l', p' ≤ p ∧ ls[p']? = some l' ∧ r' ∈ l' := by
  intro p
  induction p using Nat.strongRecOn with
  | _ p ih =>
    intro l r hl hr
    by_cases h : ∃ p' l' r', p' < p ∧ ls[p']? = some l' ∧ r' ∈ l' ∧ o r' r = 0
    · obtain ⟨p', l', r', h1, h2, h3, h4⟩ := h
      obtain ⟨r2, g1, g2, p2, l2, g3, g4, g5⟩ := ih p' h1 l' r' h2 h3
      exact ⟨r2, g1, T.eq_trans g2 h4, p2, l2, by omega, g4, g5⟩
    · exact ⟨r, ⟨p, l, hl, hr, fun p' l' h1 h2 r' h3 h4 => h ⟨p', l', r', h1, h2, h3, h4⟩⟩, T.refl r, p, l, Nat.le_refl _, hl, hr⟩

/-- Two lists in one, as the document does it. -/
def two {α : Type} (o : α → α → Int) : List α → List α → List α
  | [], b => b
  | a, [] => a
  | x :: a, y :: b => if o x y < 0 then x :: two o a (y :: b) else if o y x < 0 then y :: two o (x :: a) b else x :: two o a b
termination_by a b => a.length + b.length
section
variable {α : Type} {o : α → α → Int}
theorem two_mem (T : TO o) : ∀ (a b : List α), Srt o a → Srt o b → Srt o (two o a b) ∧ ∀ r, r ∈ two o a b ↔ r ∈ a ∨ r ∈ b ∧ ∀ r' ∈ a, o r' r ≠ 0
  | [], b, ha, hb => by
    rw [two]; exact ⟨hb, fun r => by simp⟩
  | x :: a, [], ha, hb => by
    rw [two]; exact ⟨ha, fun r => by simp⟩
    simp
  | x :: a, y :: b, ha, hb => by
    have ha' := List.pairwise_cons.1 ha
    have hb' := List.pairwise_cons.1 hb
    rw [two]
    by_cases h1 : o x y < 0
    · rw [if_pos h1]
      obtain ⟨s, m⟩ := two_mem T a (y :: b) ha'.2 hb
      refine ⟨List.pairwise_cons.2 ⟨fun r hr => ?_, s⟩, fun r => ?_⟩
      · rcases (m r).1 hr with h | ⟨h, _⟩
        · exact ha'.1 r h
        · rcases List.mem_cons.1 h with rfl | h
          · exact h1
          · exact T.trans _ _ _ h1 (hb'.1 r h)
      · rw [List.mem_cons, m r, List.mem_cons (a := r) (b := x) (l := a)]
        constructor
        · rintro (h | h | ⟨h2, h3⟩)
          · exact .inl (.inl h)
          · exact .inl (.inr h)
          · refine .inr ⟨h2, fun r' hr' => ?_⟩
            rcases List.mem_cons.1 hr' with rfl | hr'
            · rcases List.mem_cons.1 h2 with rfl | h2
              · omega
              · have := T.trans _ _ _ h1 (hb'.1 r h2); omega
            · exact h3 r' hr'
        · rintro ((h | h) | ⟨h2, h3⟩)
          · exact .inl h
          · exact .inr (.inl h)
          · exact .inr (.inr ⟨h2, fun r' hr' => h3 r' (List.mem_cons_of_mem _ hr')⟩)
    · rw [if_neg h1]
      by_cases h2 : o y x < 0
      · rw [if_pos h2]
        obtain ⟨s, m⟩ := two_mem T (x :: a) b ha hb'.2
        refine ⟨List.pairwise_cons.2 ⟨fun r hr => ?_, s⟩, fun r => ?_⟩
        · rcases (m r).1 hr with h | ⟨h, _⟩
          · rcases List.mem_cons.1 h with rfl | h
            · exact h2
            · exact T.trans _ _ _ h2 (ha'.1 r h)
          · exact hb'.1 r h
        · rw [List.mem_cons, m r, List.mem_cons (a := r) (b := y) (l := b)]
          constructor
          · rintro (rfl | h | ⟨h3, h4⟩)
            · refine .inr ⟨.inl rfl, fun r' hr' => ?_⟩
              have f := (T.flip r x).1 h2
              rcases List.mem_cons.1 hr' with rfl | hr'
              · omega
              · have := T.trans _ _ _ h2 (ha'.1 r' hr')
                have := (T.flip r r').1 this; omega
            · exact .inl h
            · exact .inr ⟨.inr h3, h4⟩
          · rintro (h | ⟨h | h3, h4⟩)
            · exact .inr (.inl h)
            · exact .inl h
            · exact .inr (.inr ⟨h3, h4⟩)
      · rw [if_neg h2]
        have h0 : o x y = 0 := by have := T.flip y x; omega
        obtain ⟨s, m⟩ := two_mem T a b ha'.2 hb'.2
        refine ⟨List.pairwise_cons.2 ⟨fun r hr => ?_, s⟩, fun r => ?_⟩
        · rcases (m r).1 hr with h | ⟨h, _⟩
          · exact ha'.1 r h
          · exact (T.left _ _ _ h0).2 (hb'.1 r h)
        · rw [List.mem_cons, m r, List.mem_cons (a := r) (b := x) (l := a), List.mem_cons (a := r) (b := y) (l := b)]
          constructor
          · rintro (h | h | ⟨h3, h4⟩)
            · exact .inl (.inl h)
            · exact .inl (.inr h)
            · refine .inr ⟨.inr h3, fun r' hr' => ?_⟩
              rcases List.mem_cons.1 hr' with rfl | hr'
              · have := (T.left _ _ _ h0).2 (hb'.1 r h3); omega
              · exact h4 r' hr'
          · rintro ((h | h) | ⟨h | h3, h4⟩)
            · exact .inl h
            · exact .inr (.inl h)
            · subst h; exact absurd h0 (h4 x (by simp))
            · exact .inr (.inr ⟨h3, fun r' hr' => h4 r' (List.mem_cons_of_mem _ hr')⟩)
termination_by a b => a.length + b.length
theorem merge_nil : IsMerge o ([] : List (List α)) [] := ⟨List.Pairwise.nil, fun r => by simp [First]⟩
theorem getElem?_snoc (ls : List (List α)) (l : List α) (p : Nat) : (ls ++ [l])[p]? = if p < ls.length then ls[p]? else if p = ls.length then some l else none := by
  split
  · exact List.getElem?_append_left (by assumption)
  · split
    · rename_i h; subst h; simp
    · exact List.getElem?_eq_none (by simp; omega)
/-- One list more. -/
theorem IsMerge.snoc (T : TO o) {ls : List (List α)} {acc l : List α} (h : IsMerge o ls acc) (hl : Srt o l) : IsMerge o (ls ++ [l]) (two o acc l) := by
  obtain ⟨s, m⟩ := two_mem T acc l h.srt hl
  refine ⟨s, fun r => (m r).trans ?_⟩
  constructor
  · rintro (h1 | ⟨h1, h2⟩)
    · obtain ⟨p, l', a1, a2, a3⟩ := (h.mem r).1 h1
      have hp : p < ls.length := (List.getElem?_eq_some_iff.1 a1).1
      refine ⟨p, l', by rw [getElem?_snoc, if_pos hp]; exact a1, a2, fun p' l'' hp' hl'' => ?_⟩
      rw [getElem?_snoc, if_pos (by omega)] at hl''
      exact a3 p' l'' hp' hl''
    · refine ⟨ls.length, l, by rw [getElem?_snoc, if_neg (Nat.lt_irrefl _), if_pos rfl], h1, fun p' l' hp' hl' r' hr' e => ?_⟩
      rw [getElem?_snoc, if_pos hp'] at hl'
      obtain ⟨r2, g1, g2, _⟩ := first_ex T ls p' l' r' hl' hr'
      exact h2 r2 ((h.mem r2).2 g1) (T.eq_trans g2 e)
  · rintro ⟨p, l', a1, a2, a3⟩
    rw [getElem?_snoc] at a1
    split at a1
    · rename_i hp
      refine .inl ((h.mem r).2 ⟨p, l', a1, a2, fun p' l'' hp' hl'' => a3 p' l'' hp' (by rw [getElem?_snoc, if_pos (by omega)]; exact hl'')⟩)
    · split at a1
      · rename_i h1 hp
        cases a1
        refine .inr ⟨a2, fun r' hr' => ?_⟩
        obtain ⟨p', l'', b1, b2, b3⟩ := (h.mem r').1 hr'
        have hp' : p' < ls.length := (List.getElem?_eq_some_iff.1 b1).1
        exact a3 p' l'' (by omega) (by rw [getElem?_snoc, if_pos hp']; exact b1) r' b2
      · cases a1
end
end Go.Proofs.Ytfcemlcocdhmfaa
/- The least ones one by one, in plain words. -/
namespace Go.Proofs.Ytfcemlcocdhmfaa
set_option linter.unusedVariables false
set_option linter.unusedSimpArgs false

def FirstF {α : Type} (o : α → α → Int) (d : Nat → List α) (r : α) : Prop := ∃ p, r ∈ d p ∧ ∀ p', p' < p → ∀ r' ∈ d p', o r' r ≠ 0
def upd {α : Type} (f : Nat → List α) (p : Nat) (l : List α) : Nat → List α := fun q => if q = p then l else f q
theorem upd_at {α : Type} (f : Nat → List α) (p : Nat) (l : List α) : upd f p l p = l := if_pos rfl
theorem upd_ne {α : Type} (f : Nat → List α) {p q : Nat} (l : List α) (h : q ≠ p) : upd f p l q = f q := if_neg h
structure MI {α : Type} (o : α → α → Int) (ls d rem : Nat → List α) (out : List α) : Prop where
  whole : ∀ p, ls p = d p ++ rem p
  srt : Srt o out
  le : ∀ a ∈ out, ∀ p, ∀ r ∈ rem p, o a r ≤ 0
  mem : ∀ r, r ∈ out ↔ FirstF o d r
  ord : ∀ p r p' r', r ∈ d p → r' ∈ rem p' → o r r' < 0 ∨ o r r' = 0 ∧ p < p'
section
variable {α : Type} {o : α → α → Int} {ls d rem : Nat → List α} {out : List α}
theorem MI.start (ls : Nat → List α) : MI o ls (fun _ => []) ls [] := ⟨fun p => by simp, List.Pairwise.nil, fun a h => by simp at h, fun r => by simp [FirstF], fun p r p' r' h => by simp at h⟩
/-- Its equal is among the first ones. -/
theorem firstF_ex (T : TO o) (d : Nat → List α) : ∀ (p : Nat) (r : α), r ∈ d p → ∃ r', FirstF o d r' ∧ o r' r = 0 := by
  intro p
  induction p using Nat.strongRecOn with
  | _ p ih =>
    intro r hr
    by_cases h : ∃ p' r', p' < p ∧ r' ∈ d p' ∧ o r' r = 0
    · obtain ⟨p', r', h1, h3, h4⟩ := h
      obtain ⟨r2, g1, g2⟩ := ih p' h1 r' h3
      exact ⟨r2, g1, T.eq_trans g2 h4⟩
    · exact ⟨r, ⟨p, hr, fun p' h1 r' h3 h4 => h ⟨p', r', h1, h3, h4⟩⟩, T.refl r⟩
/-- What is taken next. -/
def took (o : α → α → Int) (out : List α) (x : α) : List α := match out.getLast? with
  | none => out ++ [x]
  | some a => if o a x = 0 then out else out ++ [x]
theorem took_nil (x : α) : took o [] x = [x] := rfl
theorem took_same {out : List α} {a x : α} (h : out.getLast? = some a) (e : o a x = 0) : took o out x = out := by unfold took; rw [h]; exact if_pos e
theorem took_new {out : List α} {a x : α} (h : out.getLast? = some a) (e : ¬ o a x = 0) : took o out x = out ++ [x] := by unfold took; rw [h]; exact if_neg e
theorem MI.step (T : TO o) (h : MI o ls d rem out) (hs : ∀ p, Srt o (ls p)) {p : Nat} {x : α} {xs : List α} (hp : rem p = x :: xs)
    (hmin : ∀ p' y ys, rem p' = y :: ys → p' ≠ p → o x y < 0 ∨ o x y = 0 ∧ p < p') : MI o ls (upd d p (d p ++ [x])) (upd rem p xs) (took o out x) := by
  have hxm : x ∈ rem p := by rw [hp]; simp
  have sub : ∀ p' r, r ∈ upd rem p xs p' → r ∈ rem p' := fun p' r hr => by
    by_cases e : p' = p
    · subst e; rw [upd_at] at hr; rw [hp]; exact List.mem_cons_of_mem _ hr
    · rwa [upd_ne _ _ e] at hr
  have srem : ∀ p', Srt o (rem p') := fun p' => by have := hs p'; rw [h.whole p'] at this; exact (List.pairwise_append.1 this).2.1
  have xord : ∀ p' r', r' ∈ upd rem p xs p' → o x r' < 0 ∨ o x r' = 0 ∧ p < p' := fun p' r' hr => by
    by_cases e : p' = p
    · subst e; rw [upd_at] at hr
      have := srem p'; rw [hp] at this; have := List.pairwise_cons.1 this
      exact .inl (this.1 r' hr)
    · rw [upd_ne _ _ e] at hr
      obtain ⟨y, ys, hy⟩ : ∃ y ys, rem p' = y :: ys := by
        cases he : rem p' with
        | nil => rw [he] at hr; cases hr
        | cons y ys => exact ⟨y, ys, rfl⟩
      have h1 := hmin p' y ys hy e
      rw [hy] at hr
      rcases List.mem_cons.1 hr with rfl | hr
      · exact h1
      · have := srem p'; rw [hy] at this; have := List.pairwise_cons.1 this
        have h2 := this.1 r' hr
        exact .inl (T.le_lt (by omega) h2)
  have dmem : ∀ q r, r ∈ upd d p (d p ++ [x]) q ↔ r ∈ d q ∨ q = p ∧ r = x := fun q r => by
    by_cases e : q = p
    · subst e; rw [upd_at]; simp
    · rw [upd_ne _ _ e]; simp [e]
  -- the first ones, one more
  have first : ∀ r, FirstF o (upd d p (d p ++ [x])) r ↔ FirstF o d r ∨ r = x ∧ ∀ p', p' < p → ∀ r' ∈ d p', o r' x ≠ 0 := fun r => by
    constructor
    · rintro ⟨q, hq, hf⟩
      rcases (dmem q r).1 hq with h1 | ⟨rfl, rfl⟩
      · exact .inl ⟨q, h1, fun p' hp' r' hr' => hf p' hp' r' ((dmem p' r').2 (.inl hr'))⟩
      · exact .inr ⟨rfl, fun p' hp' r' hr' => hf p' hp' r' ((dmem p' r').2 (.inl hr'))⟩
    · rintro (⟨q, hq, hf⟩ | ⟨rfl, hf⟩)
      · refine ⟨q, (dmem q r).2 (.inl hq), fun p' hp' r' hr' e => ?_⟩
        rcases (dmem p' r').1 hr' with h1 | ⟨rfl, rfl⟩
        · exact hf p' hp' r' h1 e
        · rcases h.ord q r p' r' hq hxm with h2 | ⟨_, h2⟩
          · have := T.symm e; omega
          · omega
      · refine ⟨p, (dmem p r).2 (.inr ⟨rfl, rfl⟩), fun p' hp' r' hr' e => ?_⟩
        rcases (dmem p' r').1 hr' with h1 | ⟨rfl, _⟩
        · exact hf p' hp' r' h1 e
        · omega
  refine ⟨fun q => ?_, ?_, ?_, ?_, ?_⟩
  · by_cases e : q = p
    · subst e; rw [upd_at, upd_at, h.whole q, hp]; simp
    · rw [upd_ne _ _ e, upd_ne _ _ e]; exact h.whole q
  · unfold took
    cases hl : out.getLast? with
    | none => rw [List.getLast?_eq_none_iff.1 hl]; simp [Srt]
    | some a =>
      simp only
      split
      · exact h.srt
      · rename_i hne
        obtain ⟨o', rfl⟩ := List.getLast?_eq_some_iff.1 hl
        refine List.pairwise_append.2 ⟨h.srt, by simp, fun b hb y hy => ?_⟩
        rw [List.mem_singleton] at hy; subst hy
        have hle := h.le a (by simp) p y hxm
        rcases List.mem_append.1 hb with hb | hb
        · have := (List.pairwise_append.1 h.srt).2.2 b hb a (by simp)
          exact T.lt_le this hle
        · rw [List.mem_singleton] at hb; subst hb; omega
  · intro a ha p' r hr
    have : a ∈ out ∨ a = x := by
      unfold took at ha
      split at ha
      · simpa using ha
      · split at ha
        · exact .inl ha
        · simpa using ha
    rcases this with h1 | rfl
    · exact h.le a h1 p' r (sub p' r hr)
    · have := xord p' r hr; omega
  · intro r
    rw [first r]
    unfold took
    cases hl : out.getLast? with
    | none =>
      have hn := List.getLast?_eq_none_iff.1 hl
      simp only
      rw [hn, List.nil_append, List.mem_singleton]
      have hnone : ∀ r, ¬ FirstF o d r := fun r hr => by have := (h.mem r).2 hr; rw [hn] at this; cases this
      constructor
      · rintro rfl
        refine .inr ⟨rfl, fun p' hp' r' hr' _ => ?_⟩
        obtain ⟨r2, h2, _⟩ := firstF_ex T d p' r' hr'
        exact hnone _ h2
      · rintro (h1 | h1)
        · exact absurd h1 (hnone _)
        · exact h1.1
    | some a =>
      simp only
      obtain ⟨o', ho⟩ := List.getLast?_eq_some_iff.1 hl
      have ha : a ∈ out := by rw [ho]; simp
      split
      · rename_i he
        rw [h.mem r]
        constructor
        · exact .inl
        · rintro (h1 | ⟨rfl, h1⟩)
          · exact h1
          · obtain ⟨q, hq, _⟩ := (h.mem a).1 ha
            rcases h.ord q a p r hq hxm with h2 | ⟨_, h2⟩
            · omega
            · exact absurd he (h1 q h2 a hq)
      · rename_i hne
        rw [List.mem_append, List.mem_singleton, h.mem r]
        constructor
        · rintro (h1 | rfl)
          · exact .inl h1
          · refine .inr ⟨rfl, fun p' hp' r' hr' e => ?_⟩
            obtain ⟨r2, h2, h3⟩ := firstF_ex T d p' r' hr'
            have h4 := (h.mem r2).2 h2
            have h5 := T.eq_trans h3 e
            have h6 := h.le a ha p r hxm
            have h7 : o r2 a ≤ 0 := by
              rw [ho] at h4
              rcases List.mem_append.1 h4 with h8 | h8
              · have := h.srt; rw [ho] at this
                have := (List.pairwise_append.1 this).2.2 r2 h8 a (by simp); omega
              · rw [List.mem_singleton] at h8; subst h8; rw [T.refl]; omega
            have h8 := (T.left r2 r a h5)
            have h9 := T.flip r a
            have h10 : ¬ o r2 a < 0 → o r2 a = 0 := by omega
            by_cases h11 : o r2 a < 0
            · have := h8.1 h11
              have := h9.1 this; omega
            · have h12 := h10 h11
              exact hne (T.eq_trans (T.symm h12) h5)
        · rintro (h1 | ⟨rfl, _⟩)
          · exact .inl h1
          · exact .inr rfl
  · intro q r p' r' hr hr'
    rcases (dmem q r).1 hr with h1 | ⟨rfl, rfl⟩
    · exact h.ord q r p' r' h1 (sub p' r' hr')
    · exact xord p' r' hr'
/-- All is taken. -/
theorem MI.done {L : List (List α)} (h : MI o (fun p => L[p]?.getD []) d rem out) (he : ∀ p, rem p = []) : IsMerge o L out := by
  have hd : ∀ p, d p = L[p]?.getD [] := fun p => by have := h.whole p; rw [he p, List.append_nil] at this; exact this.symm
  refine ⟨h.srt, fun r => (h.mem r).trans ?_⟩
  constructor
  · rintro ⟨p, hr, hf⟩
    rw [hd] at hr
    cases hl : L[p]? with
    | none => rw [hl] at hr; simp at hr
    | some l =>
      rw [hl] at hr
      refine ⟨p, l, hl, hr, fun p' l' hp' hl' r' hr' => hf p' hp' r' (by rw [hd, hl']; exact hr')⟩
  · rintro ⟨p, l, hl, hr, hf⟩
    refine ⟨p, by rw [hd, hl]; exact hr, fun p' hp' r' hr' => ?_⟩
    rw [hd] at hr'
    cases hl' : L[p']? with
    | none => rw [hl'] at hr'; simp at hr'
    | some l' => rw [hl'] at hr'; exact hf p' l' hp' hl' r' hr'
end
end Go.Proofs.Ytfcemlcocdhmfaa
/- A heap, in plain words: what a step up and a step down leave. -/
namespace Go.Proofs.Ytfcemlcocdhmfaa
set_option linter.unusedVariables false
set_option linter.unusedSimpArgs false

structure LO {β : Type} (L : β → β → Prop) : Prop where
  asymm : ∀ a b, L a b → ¬ L b a
  ntrans : ∀ a b c, ¬ L a b → ¬ L b c → ¬ L a c
def swp {β : Type} (f : Nat → β) (i j : Nat) : Nat → β := fun k => if k = i then f j else if k = j then f i else f k
section
variable {β : Type} {L : β → β → Prop}
/-- A heap of n. -/
def Hp (L : β → β → Prop) (f : Nat → β) (n : Nat) : Prop := ∀ j, 0 < j → j < n → ¬ L (f j) (f ((j - 1) / 2))
/-- A heap, but for i against its children. -/
structure HpD (L : β → β → Prop) (f : Nat → β) (n i : Nat) : Prop where
  one : ∀ j, 0 < j → j < n → (j - 1) / 2 ≠ i → ¬ L (f j) (f ((j - 1) / 2))
  two : ∀ j, 0 < j → j < n → (j - 1) / 2 = i → 0 < i → ¬ L (f j) (f ((i - 1) / 2))
/-- A heap, but for j against what it hangs on. -/
structure HpU (L : β → β → Prop) (f : Nat → β) (n j : Nat) : Prop where
  one : ∀ k, 0 < k → k < n → k ≠ j → ¬ L (f k) (f ((k - 1) / 2))
  two : ∀ k, 0 < k → k < n → (k - 1) / 2 = j → 0 < j → ¬ L (f k) (f ((j - 1) / 2))
theorem Hp.min (O : LO L) {f : Nat → β} {n : Nat} (h : Hp L f n) : ∀ k, k < n → k ≠ 0 → ¬ L (f k) (f 0) := by
  intro k
  induction k using Nat.strongRecOn with
  | _ k ih =>
    intro hk h0
    have h1 := h k (by omega) hk
    by_cases h2 : (k - 1) / 2 = 0
    · rwa [h2] at h1
    · exact O.ntrans _ _ _ h1 (ih ((k - 1) / 2) (by omega) (by omega) h2)
theorem Hp.toD {f : Nat → β} {n : Nat} (h : Hp L f n) : HpD L f n 0 := ⟨fun j h0 hj _ => h j h0 hj, fun j _ _ _ h0 => by omega⟩
/-- A heap whose first one was changed. -/
theorem Hp.first {f g : Nat → β} {n m : Nat} (h : Hp L f n) (hm : m ≤ n) (hg : ∀ k, 0 < k → k < m → g k = f k) : HpD L g m 0 :=
  ⟨fun j h0 hj hne => by rw [hg j h0 hj, hg _ (by omega) (by omega)]; exact h j h0 (by omega), fun j _ _ _ h0 => by omega⟩
theorem Hp.push {f g : Nat → β} {n : Nat} (h : Hp L f n) (hg : ∀ k, k < n → g k = f k) : HpU L g (n + 1) n :=
  ⟨fun k h0 hk hne => by rw [hg k (by omega), hg _ (by omega)]; exact h k h0 (by omega), fun k h0 hk hp hn => by omega⟩
theorem HpU.zero {f : Nat → β} {n : Nat} (h : HpU L f n 0) : Hp L f n := fun j h0 hj => h.one j h0 hj (by omega)
theorem HpU.stop {f : Nat → β} {n j : Nat} (h : HpU L f n j) (hs : ¬ L (f j) (f ((j - 1) / 2))) : Hp L f n := fun k h0 hk => by
  by_cases e : k = j
  · subst e; exact hs
  · exact h.one k h0 hk e
theorem HpU.step (O : LO L) {f : Nat → β} {n j : Nat} (h : HpU L f n j) (hj : 0 < j) (hjn : j < n) (hs : L (f j) (f ((j - 1) / 2))) : HpU L (swp f ((j - 1) / 2) j) n ((j - 1) / 2) := by
  obtain ⟨i, hi⟩ : ∃ i, (j - 1) / 2 = i := ⟨_, rfl⟩
  rw [hi] at hs ⊢
  have hij : i < j := by omega
  constructor
  · intro k h0 hk hne
    unfold swp
    rw [if_neg hne]
    by_cases e : k = j
    · subst e
      rw [if_pos rfl, hi, if_pos rfl]
      exact O.asymm _ _ hs
    · rw [if_neg e]
      by_cases e2 : (k - 1) / 2 = i
      · rw [e2, if_pos rfl]
        have h1 := h.one k h0 hk e
        rw [e2] at h1
        exact O.ntrans _ _ _ h1 (O.asymm _ _ hs)
      · rw [if_neg e2]
        by_cases e3 : (k - 1) / 2 = j
        · rw [if_pos e3]
          have := h.two k h0 hk e3 hj
          rwa [hi] at this
        · rw [if_neg e3]; exact h.one k h0 hk e
  · intro k h0 hk hp hi0
    unfold swp
    have e4 : (i - 1) / 2 ≠ i := by omega
    have e5 : (i - 1) / 2 ≠ j := by omega
    rw [if_neg e4, if_neg e5, if_neg (by omega)]
    have h2 := h.one i hi0 (by omega) (by omega)
    by_cases e : k = j
    · rw [if_pos e]; exact h2
    · rw [if_neg e]
      have h1 := h.one k h0 hk e
      rw [hp] at h1
      exact O.ntrans _ _ _ h1 h2
/-- No child. -/
theorem HpD.leaf {f : Nat → β} {n i : Nat} (h : HpD L f n i) (hn : n ≤ 2 * i + 1) : Hp L f n := fun j h0 hj => h.one j h0 hj (by omega)
/-- The least child is c; it is no less. -/
theorem HpD.stop (O : LO L) {f : Nat → β} {n i c : Nat} (h : HpD L f n i) (hmin : ∀ k, 0 < k → k < n → (k - 1) / 2 = i → ¬ L (f k) (f c)) (hs : ¬ L (f c) (f i)) : Hp L f n := fun j h0 hj => by
  by_cases e : (j - 1) / 2 = i
  · rw [e]; exact O.ntrans _ _ _ (hmin j h0 hj e) hs
  · exact h.one j h0 hj e
theorem HpD.step (O : LO L) {f : Nat → β} {n i c : Nat} (h : HpD L f n i) (hc : 0 < c) (hcn : c < n) (hp : (c - 1) / 2 = i) (hmin : ∀ k, 0 < k → k < n → (k - 1) / 2 = i → ¬ L (f k) (f c)) (hs : L (f c) (f i)) : HpD L (swp f i c) n c := by
  have hic : i < c := by omega
  constructor
  · intro k h0 hk hne
    unfold swp
    rw [if_neg hne]
    by_cases e : (k - 1) / 2 = i
    · rw [if_pos e, if_neg (show k ≠ i by omega)]
      by_cases e2 : k = c
      · rw [if_pos e2]; exact O.asymm _ _ hs
      · rw [if_neg e2]; exact hmin k h0 hk e
    · rw [if_neg e]
      by_cases e2 : k = i
      · rw [if_pos e2]
        have := h.two c hc hcn hp (by omega)
        rwa [e2]
      · rw [if_neg e2]
        have e3 : k ≠ c := fun e3 => e (by rw [e3]; exact hp)
        rw [if_neg e3]
        exact h.one k h0 hk e
  · intro k h0 hk hpc _
    unfold swp
    rw [hp, if_pos rfl, if_neg (show k ≠ i by omega), if_neg (show k ≠ c by omega)]
    have := h.one k h0 hk (by omega)
    rwa [hpc] at this
/-- Of two children the lesser one. -/
theorem child_left {f : Nat → β} {n i : Nat} (h : n ≤ 2 * i + 2 ∨ ¬ L (f (2 * i + 2)) (f (2 * i + 1))) (O : LO L) : ∀ k, 0 < k → k < n → (k - 1) / 2 = i → ¬ L (f k) (f (2 * i + 1)) := fun k h0 hk hp => by
  have : k = 2 * i + 1 ∨ k = 2 * i + 2 := by omega
  rcases this with rfl | rfl
  · exact fun h1 => O.asymm _ _ h1 h1
  · rcases h with h | h
    · omega
    · exact h
theorem child_right {f : Nat → β} {n i : Nat} (h : L (f (2 * i + 2)) (f (2 * i + 1))) (O : LO L) : ∀ k, 0 < k → k < n → (k - 1) / 2 = i → ¬ L (f k) (f (2 * i + 2)) := fun k h0 hk hp => by
  have : k = 2 * i + 1 ∨ k = 2 * i + 2 := by omega
  rcases this with rfl | rfl
  · exact O.asymm _ _ h
  · exact fun h1 => O.asymm _ _ h1 h1
end
end Go.Proofs.Ytfcemlcocdhmfaa
