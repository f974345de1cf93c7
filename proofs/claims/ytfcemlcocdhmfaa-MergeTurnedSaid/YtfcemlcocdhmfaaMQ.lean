/- The least ones one by one, in plain words. -/
import Derived.Test.YtfcemlcocdhmfaaMP
namespace Go.Proofs.Ytfcemlcocdhmfaa
set_option linter.unusedVariables false
set_option linter.unusedSimpArgs false

def FirstF {α : Type} (o : α → α → Int) (d : Nat → List α) (r : α) : Prop := ∃ p, r ∈ d p ∧ ∀ p', p' < p → ∀ r' ∈ d p', o r' r ≠ 0
def upd {α : Type} (f : Nat → List α) (p : Nat) (l : List α) : Nat → List α := fun q => if q = p then l else f q
theorem upd_at {α : Type} (f : Nat → List α) (p : Nat) (l : List α) : upd f p l p = l := if_pos rfl
theorem upd_ne {α : Type} (f : Nat → List α) {p q : Nat} (l : List α) (h : q ≠ p) : upd f p l q = f q := if_neg h
structure MI {α : Type} (o : α → α → Int) (ls d rem : Nat → List α) (out : List α) : Prop where
  whole : ∀ p, ls p = d p ++ rem p
  srt : Srt o out
  le : ∀ a ∈ out, ∀ p, ∀ r ∈ rem p, o a r ≤ 0
  mem : ∀ r, r ∈ out ↔ FirstF o d r
  ord : ∀ p r p' r', r ∈ d p → r' ∈ rem p' → o r r' < 0 ∨ o r r' = 0 ∧ p < p'
section
variable {α : Type} {o : α → α → Int} {ls d rem : Nat → List α} {out : List α}
theorem MI.start (ls : Nat → List α) : MI o ls (fun _ => []) ls [] := ⟨fun p => by simp, List.Pairwise.nil, fun a h => by simp at h, fun r => by simp [FirstF], fun p r p' r' h => by simp at h⟩
/-- Its equal is among the first ones. -/
theorem firstF_ex (T : TO o) (d : Nat → List α) : ∀ (p : Nat) (r : α), r ∈ d p → ∃ r', FirstF o d r' ∧ o r' r = 0 := by
  intro p
  induction p using Nat.strongRecOn with
  | _ p ih =>
    intro r hr
    by_cases h : ∃ p' r', p' < p ∧ r' ∈ d p' ∧ o r' r = 0
    · obtain ⟨p', r', h1, h3, h4⟩ := h
      obtain ⟨r2, g1, g2⟩ := ih p' h1 r' h3
      exact ⟨r2, g1, T.eq_trans g2 h4⟩
    · exact ⟨r, ⟨p, hr, fun p' h1 r' h3 h4 => h ⟨p', r', h1, h3, h4⟩⟩, T.refl r⟩
/-- What is taken next. -/
def took (o : α → α → Int) (out : List α) (x : α) : List α := match out.getLast? with
  | none => out ++ [x]
  | some a => if o a x = 0 then out else out ++ [x]
theorem took_nil (x : α) : took o [] x = [x] := rfl
theorem took_same {out : List α} {a x : α} (h : out.getLast? = some a) (e : o a x = 0) : took o out x = out := by unfold took; rw [h]; exact if_pos e
theorem took_new {out : List α} {a x : α} (h : out.getLast? = some a) (e : ¬ o a x = 0) : took o out x = out ++ [x] := by unfold took; rw [h]; exact if_neg e
theorem MI.step (T : TO o) (h : MI o ls d rem out) (hs : ∀ p, Srt o (ls p)) {p : Nat} {x : α} {xs : List α} (hp : rem p = x :: xs)
    (hmin : ∀ p' y ys, rem p' = y :: ys → p' ≠ p → o x y < 0 ∨ o x y = 0 ∧ p < p') : MI o ls (upd d p (d p ++ [x])) (upd rem p xs) (took o out x) := by
  have hxm : x ∈ rem p := by rw [hp]; simp
  have sub : ∀ p' r, r ∈ upd rem p xs p' → r ∈ rem p' := fun p' r hr => by
    by_cases e : p' = p
    · subst e; rw [upd_at] at hr; rw [hp]; exact List.mem_cons_of_mem _ hr
    · rwa [upd_ne _ _ e] at hr
  have srem : ∀ p', Srt o (rem p') := fun p' => by have := hs p'; rw [h.whole p'] at this; exact (List.pairwise_append.1 this).2.1
  have xord : ∀ p' r', r' ∈ upd rem p xs p' → o x r' < 0 ∨ o x r' = 0 ∧ p < p' := fun p' r' hr => by
    by_cases e : p' = p
    · subst e; rw [upd_at] at hr
      have := srem p'; rw [hp] at this; have := List.pairwise_cons.1 this
      exact .inl (this.1 r' hr)
    · rw [upd_ne _ _ e] at hr
      obtain ⟨y, ys, hy⟩ : ∃ y ys, rem p' = y :: ys := by
        cases he : rem p' with
        | nil => rw [he] at hr; cases hr
        | cons y ys => exact ⟨y, ys, rfl⟩
      have h1 := hmin p' y ys hy e
      rw [hy] at hr
      rcases List.mem_cons.1 hr with rfl | hr
      · exact h1
      · have := srem p'; rw [hy] at this; have := List.pairwise_cons.1 this
        have h2 := this.1 r' hr
        exact .inl (T.le_lt (by omega) h2)
  have dmem : ∀ q r, r ∈ upd d p (d p ++ [x]) q ↔ r ∈ d q ∨ q = p ∧ r = x := fun q r => by
    by_cases e : q = p
    · subst e; rw [upd_at]; simp
    · rw [upd_ne _ _ e]; simp [e]
  -- the first ones, one more
  have first : ∀ r, FirstF o (upd d p (d p ++ [x])) r ↔ FirstF o d r ∨ r = x ∧ ∀ p', p' < p → ∀ r' ∈ d p', o r' x ≠ 0 := fun r => by
    constructor
    · rintro ⟨q, hq, hf⟩
      rcases (dmem q r).1 hq with h1 | ⟨rfl, rfl⟩
      · exact .inl ⟨q, h1, fun p' hp' r' hr' => hf p' hp' r' ((dmem p' r').2 (.inl hr'))⟩
      · exact .inr ⟨rfl, fun p' hp' r' hr' => hf p' hp' r' ((dmem p' r').2 (.inl hr'))⟩
    · rintro (⟨q, hq, hf⟩ | ⟨rfl, hf⟩)
      · refine ⟨q, (dmem q r).2 (.inl hq), fun p' hp' r' hr' e => ?_⟩
        rcases (dmem p' r').1 hr' with h1 | ⟨rfl, rfl⟩
        · exact hf p' hp' r' h1 e
        · rcases h.ord q r p' r' hq hxm with h2 | ⟨_, h2⟩
          · have := T.symm e; omega
          · omega
      · refine ⟨p, (dmem p r).2 (.inr ⟨rfl, rfl⟩), fun p' hp' r' hr' e => ?_⟩
        rcases (dmem p' r').1 hr' with h1 | ⟨rfl, _⟩
        · exact hf p' hp' r' h1 e
        · omega
  refine ⟨fun q => ?_, ?_, ?_, ?_, ?_⟩
  · by_cases e : q = p
    · subst e; rw [upd_at, upd_at, h.whole q, hp]; simp
    · rw [upd_ne _ _ e, upd_ne _ _ e]; exact h.whole q
  · unfold took
    cases hl : out.getLast? with
    | none => rw [List.getLast?_eq_none_iff.1 hl]; simp [Srt]
    | some a =>
      simp only
      split
      · exact h.srt
      · rename_i hne
        obtain ⟨o', rfl⟩ := List.getLast?_eq_some_iff.1 hl
        refine List.pairwise_append.2 ⟨h.srt, by simp, fun b hb y hy => ?_⟩
        rw [List.mem_singleton] at hy; subst hy
        have hle := h.le a (by simp) p y hxm
        rcases List.mem_append.1 hb with hb | hb
        · have := (List.pairwise_append.1 h.srt).2.2 b hb a (by simp)
          exact T.lt_le this hle
        · rw [List.mem_singleton] at hb; subst hb; omega
  · intro a ha p' r hr
    have : a ∈ out ∨ a = x := by
      unfold took at ha
      split at ha
      · simpa using ha
      · split at ha
        · exact .inl ha
        · simpa using ha
    rcases this with h1 | rfl
    · exact h.le a h1 p' r (sub p' r hr)
    · have := xord p' r hr; omega
  · intro r
    rw [first r]
    unfold took
    cases hl : out.getLast? with
    | none =>
      have hn := List.getLast?_eq_none_iff.1 hl
      simp only
      rw [hn, List.nil_append, List.mem_singleton]
      have hnone : ∀ r, ¬ FirstF o d r := fun r hr => by have := (h.mem r).2 hr; rw [hn] at this; cases this
      constructor
      · rintro rfl
        refine .inr ⟨rfl, fun p' hp' r' hr' _ => ?_⟩
        obtain ⟨r2, h2, _⟩ := firstF_ex T d p' r' hr'
        exact hnone _ h2
      · rintro (h1 | h1)
        · exact absurd h1 (hnone _)
        · exact h1.1
    | some a =>
      simp only
      obtain ⟨o', ho⟩ := List.getLast?_eq_some_iff.1 hl
      have ha : a ∈ out := by rw [ho]; simp
      split
      · rename_i he
        rw [h.mem r]
        constructor
        · exact .inl
        · rintro (h1 | ⟨rfl, h1⟩)
          · exact h1
          · obtain ⟨q, hq, _⟩ := (h.mem a).1 ha
            rcases h.ord q a p r hq hxm with h2 | ⟨_, h2⟩
            · omega
            · exact absurd he (h1 q h2 a hq)
      · rename_i hne
        rw [List.mem_append, List.mem_singleton, h.mem r]
        constructor
        · rintro (h1 | rfl)
          · exact .inl h1
          · refine .inr ⟨rfl, fun p' hp' r' hr' e => ?_⟩
            obtain ⟨r2, h2, h3⟩ := firstF_ex T d p' r' hr'
            have h4 := (h.mem r2).2 h2
            have h5 := T.eq_trans h3 e
            have h6 := h.le a ha p r hxm
            have h7 : o r2 a ≤ 0 := by
              rw [ho] at h4
              rcases List.mem_append.1 h4 with h8 | h8
              · have := h.srt; rw [ho] at this
                have := (List.pairwise_append.1 this).2.2 r2 h8 a (by simp); omega
              · rw [List.mem_singleton] at h8; subst h8; rw [T.refl]; omega
            have h8 := (T.left r2 r a h5)
            have h9 := T.flip r a
            have h10 : ¬ o r2 a < 0 → o r2 a = 0 := by omega
            by_cases h11 : o r2 a < 0
            · have := h8.1 h11
              have := h9.1 this; omega
            · have h12 := h10 h11
              exact hne (T.eq_trans (T.symm h12) h5)
        · rintro (h1 | ⟨rfl, _⟩)
          · exact .inl h1
          · exact .inr rfl
  · intro q r p' r' hr hr'
    rcases (dmem q r).1 hr with h1 | ⟨rfl, rfl⟩
    · exact h.ord q r p' r' h1 (sub p' r' hr')
    · exact xord p' r' hr'
/-- All is taken. -/
theorem MI.done {L : List (List α)} (h : MI o (fun p => L[p]?.getD []) d rem out) (he : ∀ p, rem p = []) : IsMerge o L out := by
  have hd : ∀ p, d p = L[p]?.getD [] := fun p => by have := h.whole p; rw [he p, List.append_nil] at this; exact this.symm
  refine ⟨h.srt, fun r => (h.mem r).trans ?_⟩
  constructor
  · rintro ⟨p, hr, hf⟩
    rw [hd] at hr
    cases hl : L[p]? with
    | none => rw [hl] at hr; simp at hr
    | some l =>
      rw [hl] at hr
      refine ⟨p, l, hl, hr, fun p' l' hp' hl' r' hr' => hf p' hp' r' (by rw [hd, hl']; exact hr')⟩
  · rintro ⟨p, l, hl, hr, hf⟩
    refine ⟨p, by rw [hd, hl]; exact hr, fun p' hp' r' hr' => ?_⟩
    rw [hd] at hr'
    cases hl' : L[p']? with
    | none => rw [hl'] at hr'; simp at hr'
    | some l' => rw [hl'] at hr'; exact hf p' l' hp' hl' r' hr'
end
end Go.Proofs.Ytfcemlcocdhmfaa
