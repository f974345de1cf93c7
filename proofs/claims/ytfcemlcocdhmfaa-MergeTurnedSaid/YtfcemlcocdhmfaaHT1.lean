/- Two lists in one: plain. -/
import Derived.Test.YtfcemlcocdhmfaaHV
namespace Go.Proofs.Ytfcemlcocdhmfaa
open Go.RowKit Go
set_option linter.unusedVariables false
set_option linter.unusedSimpArgs false
def oE (a b : El) : Int := ord2 a.r b.r
theorem two_map : ∀ (xs bs : List El), (two oE xs bs).map El.r = two ord2 (xs.map El.r) (bs.map El.r)
  | [], bs => by simp [two]
  | a :: xs, [] => by simp [two]
  | a :: xs, b :: bs => by
    rw [two, List.map_cons, List.map_cons, two]
    by_cases h1 : oE a b < 0
    · rw [if_pos h1, if_pos (show ord2 a.r b.r < 0 from h1), List.map_cons, two_map xs (b :: bs)]; rfl
    · rw [if_neg h1, if_neg (show ¬ ord2 a.r b.r < 0 from h1)]
      by_cases h2 : oE b a < 0
      · rw [if_pos h2, if_pos (show ord2 b.r a.r < 0 from h2), List.map_cons, two_map (a :: xs) bs]; rfl
      · rw [if_neg h2, if_neg (show ¬ ord2 b.r a.r < 0 from h2), List.map_cons, two_map xs bs]
termination_by xs bs => xs.length + bs.length
theorem two_sub : ∀ (xs bs : List El), ∀ q ∈ two oE xs bs, q ∈ xs ∨ q ∈ bs
  | [], bs, q, h => by rw [two] at h; exact .inr h
  | a :: xs, [], q, h => by rw [two] at h; exact .inl h; simp
  | a :: xs, b :: bs, q, h => by
    rw [two] at h
    split at h
    · rcases List.mem_cons.1 h with e | h
      · exact .inl (e ▸ List.mem_cons_self)
      · rcases two_sub xs (b :: bs) q h with h | h
        · exact .inl (List.mem_cons_of_mem _ h)
        · exact .inr h
    · split at h
      · rcases List.mem_cons.1 h with e | h
        · exact .inr (e ▸ List.mem_cons_self)
        · rcases two_sub (a :: xs) bs q h with h | h
          · exact .inl h
          · exact .inr (List.mem_cons_of_mem _ h)
      · rcases List.mem_cons.1 h with e | h
        · exact .inl (e ▸ List.mem_cons_self)
        · rcases two_sub xs bs q h with h | h
          · exact .inl (List.mem_cons_of_mem _ h)
          · exact .inr (List.mem_cons_of_mem _ h)
termination_by xs bs => xs.length + bs.length
theorem two_len : ∀ (xs bs : List El), (two oE xs bs).length ≤ xs.length + bs.length
  | [], bs => by simp [two]
  | a :: xs, [] => by simp [two]
  | a :: xs, b :: bs => by
    rw [two]
    have h1 := two_len xs (b :: bs); have h2 := two_len (a :: xs) bs; have h3 := two_len xs bs
    simp only [List.length_cons] at h1 h2 ⊢
    split
    · simp only [List.length_cons]; omega
    · split <;> simp only [List.length_cons] <;> omega
termination_by xs bs => xs.length + bs.length
theorem two_nilr (xs : List El) : two oE xs [] = xs := by cases xs <;> simp [two]
theorem below_drewNr (w : World) (n : Nat) : Below w.heap.size w (w.drewN n) := ⟨rfl, rfl, rfl, Nat.le_refl _, fun _ _ => rfl⟩
end Go.Proofs.Ytfcemlcocdhmfaa
