/- The skip list as plain lists: nodes, rows, what stands last on a level. -/
import Derived.Test.YtfcemlcocdhmfaaI
namespace Go.Proofs.Ytfcemlcocdhmfaa
open Go.RowKit Go
set_option linter.unusedVariables false
set_option linter.unusedSimpArgs false

structure Nd where
  g : Nat
  nb : Nat
  h : Nat
  kv : Value
  vv : Value
  r : Rc
def ptr (g : Nat) : Value := .pointer (some ⟨g, 0, none⟩)
/-- The first one on a level. -/
def hd (l : Nat) : List Nd → Value
  | [] => .pointer none
  | n :: ns => if l < n.h then ptr n.g else hd l ns
theorem hd_skip {l : Nat} : ∀ {X : List Nd} (Y : List Nd), (∀ x ∈ X, ¬ l < x.h) → hd l (X ++ Y) = hd l Y
  | [], _, _ => rfl
  | x :: X, Y, h => by
    show (if l < x.h then _ else hd l (X ++ Y)) = _
    rw [if_neg (h x (by simp)), hd_skip Y (fun y hy => h y (by simp [hy]))]
theorem hd_first {l : Nat} {x : Nd} : ∀ {X : List Nd} (Y Z : List Nd), x ∈ X → l < x.h → hd l (X ++ Y) = hd l (X ++ Z)
  | y :: X, Y, Z, hx, hl => by
    show (if l < y.h then _ else hd l (X ++ Y)) = (if l < y.h then _ else hd l (X ++ Z))
    by_cases h : l < y.h
    · rw [if_pos h, if_pos h]
    · rw [if_neg h, if_neg h]
      refine hd_first (x := x) Y Z ?_ hl
      rcases List.mem_cons.1 hx with rfl | hx
      · exact absurd hl h
      · exact hx
theorem hd_at {l : Nat} {x : Nd} (Y : List Nd) (h : l < x.h) : hd l (x :: Y) = ptr x.g := if_pos h
theorem hd_one {l : Nat} {x : Nd} (Y : List Nd) (h : ¬ l < x.h) : hd l (x :: Y) = hd l Y := if_neg h

/-- Is there one on this level? -/
theorem find_level (l : Nat) : ∀ (X : List Nd), (∀ x ∈ X, ¬ l < x.h) ∨ ∃ P x S, X = P ++ x :: S ∧ (∀ p ∈ P, ¬ l < p.h) ∧ l < x.h
  | [] => .inl (by simp)
  | x :: X => by
    by_cases h : l < x.h
    · exact .inr ⟨[], x, X, rfl, by simp, h⟩
    · rcases find_level l X with h1 | ⟨P, y, S, rfl, h2, h3⟩
      · exact .inl (fun a ha => by rcases List.mem_cons.1 ha with rfl | ha <;> (first | exact h | exact h1 a ha))
      · exact .inr ⟨x :: P, y, S, rfl, fun a ha => by rcases List.mem_cons.1 ha with rfl | ha <;> (first | exact h | exact h2 a ha), h3⟩

/-- The last one on a level, from the one ahead of all on. -/
def lastOn (l : Nat) (h : Nd) (A : List Nd) : Nd := A.foldl (fun x a => if l < a.h then a else x) h
theorem lastOn_skip (l : Nat) : ∀ (h : Nd) (S : List Nd), (∀ s ∈ S, ¬ l < s.h) → lastOn l h S = h
  | _, [], _ => rfl
  | h, s :: S, hs => by
    unfold lastOn
    rw [List.foldl_cons, if_neg (hs s (by simp))]
    exact lastOn_skip l h S (fun x hx => hs x (by simp [hx]))
theorem lastOn_split {l : Nat} {h a : Nd} {A P S : List Nd} (e : h :: A = P ++ a :: S) (ha : l < a.h) (hs : ∀ s ∈ S, ¬ l < s.h) : lastOn l h A = a := by
  rcases P with _ | ⟨p, P⟩
  · simp at e
    obtain ⟨rfl, rfl⟩ := e
    exact lastOn_skip l _ _ hs
  · simp at e
    obtain ⟨rfl, rfl⟩ := e
    unfold lastOn
    rw [List.foldl_append, List.foldl_cons, if_pos ha]
    exact lastOn_skip l _ _ hs
theorem lastOn_parts (l : Nat) (h : Nd) (A : List Nd) (hh : l < h.h) : ∃ P S, h :: A = P ++ lastOn l h A :: S ∧ l < (lastOn l h A).h ∧ ∀ s ∈ S, ¬ l < s.h := by
  have key : ∀ (n : Nat) (A : List Nd) (h : Nd), A.length = n → l < h.h → ∃ P S, h :: A = P ++ lastOn l h A :: S ∧ l < (lastOn l h A).h ∧ ∀ s ∈ S, ¬ l < s.h := by
    intro n
    induction n with
    | zero =>
      intro A h hA hh
      have : A = [] := List.eq_nil_of_length_eq_zero hA
      subst this
      exact ⟨[], [], rfl, hh, by simp⟩
    | succ n ih =>
      intro A h hA hh
      rcases A with _ | ⟨a, A⟩
      · simp at hA
      · by_cases ha : l < a.h
        · obtain ⟨P, S, e, h1, h2⟩ := ih A a (by simpa using hA) ha
          have el : lastOn l h (a :: A) = lastOn l a A := by unfold lastOn; rw [List.foldl_cons, if_pos ha]
          exact ⟨h :: P, S, by rw [el, List.cons_append, ← e], by rw [el]; exact h1, h2⟩
        · obtain ⟨P, S, e, h1, h2⟩ := ih A h (by simpa using hA) hh
          have el : lastOn l h (a :: A) = lastOn l h A := by unfold lastOn; rw [List.foldl_cons, if_neg ha]
          rcases P with _ | ⟨p, P⟩
          · simp at e
            obtain ⟨e1, e2⟩ := e
            refine ⟨[], a :: A, by rw [el, ← e1]; rfl, by rw [el]; exact h1, ?_⟩
            intro s hs
            rcases List.mem_cons.1 hs with rfl | hs
            · exact ha
            · exact h2 s (by rw [← e2]; exact hs)
          · simp at e
            obtain ⟨rfl, e2⟩ := e
            exact ⟨h :: a :: P, S, by rw [el, List.cons_append, List.cons_append, ← e2], by rw [el]; exact h1, h2⟩
  exact key _ A h rfl hh

/-- A row of pointers. -/
def rowF (F : Nat → Value) (h : Nat) : Array Value := ((List.range h).map F).toArray
theorem rowF_size (F : Nat → Value) (h : Nat) : (rowF F h).size = h := by simp [rowF]
theorem rowF_get (F : Nat → Value) {h l : Nat} (hl : l < h) : (rowF F h)[l]? = some (F l) := by simp [rowF, hl]
theorem rowF_set (F G : Nat → Value) (h k : Nat) (v : Value) (hk : ∀ l, l < h → l ≠ k → F l = G l) (hv : k < h → G k = v) : (rowF F h).setIfInBounds k v = rowF G h := by
  apply Array.ext
  · simp [rowF]
  · intro i h1 h2
    have hi : i < h := by simpa [rowF] using h2
    rw [Array.getElem_setIfInBounds]
    · by_cases e : k = i
      · subst e; simp [rowF, hv hi]
      · rw [if_neg e]; simp [rowF, hk i hi (fun h => e h.symm)]
    · simpa [rowF] using hi
theorem rowF_congr (F G : Nat → Value) (h : Nat) (hk : ∀ l, l < h → F l = G l) : rowF F h = rowF G h := by
  unfold rowF; congr 1
  exact List.map_congr_left (fun l hl => hk l (List.mem_range.1 hl))

/-! the order -/
theorem compare_trans : ∀ {a b c : List UInt8}, Lib.compareBytes a b < 0 → Lib.compareBytes b c < 0 → Lib.compareBytes a c < 0
  | [], b, c, h1, h2 => by
    rcases c with _ | ⟨z, c⟩
    · rcases b with _ | ⟨y, b⟩
      · exact h1
      · have h : (1 : Int) < 0 := h2
        omega
    · show (-1 : Int) < 0
      omega
  | x :: a, [], c, h1, h2 => by have h : (1 : Int) < 0 := h1; omega
  | x :: a, y :: b, [], h1, h2 => by have h : (1 : Int) < 0 := h2; omega
  | x :: a, y :: b, z :: c, h1, h2 => by
    unfold Lib.compareBytes at h1 h2 ⊢
    by_cases hxy : x < y
    · by_cases hyz : y < z
      · simp [UInt8.lt_trans hxy hyz]
      · by_cases hzy : z < y
        · simp [hyz, hzy] at h2
        · have : y = z := UInt8.le_antisymm (UInt8.not_lt.1 hzy) (UInt8.not_lt.1 hyz)
          subst this; simp [hxy]
    · by_cases hyx : y < x
      · simp [hxy, hyx] at h1
      · have : x = y := UInt8.le_antisymm (UInt8.not_lt.1 hyx) (UInt8.not_lt.1 hxy)
        subst this
        by_cases hyz : x < z
        · simp [hyz]
        · by_cases hzy : z < x
          · simp [hyz, hzy] at h2
          · simp only [hxy, hyz, hzy, hyx, if_false] at h1 h2 ⊢
            exact compare_trans h1 h2
theorem compareInt_lt (a b : Int) : Lib.compareInt a b < 0 ↔ a < b := by unfold Lib.compareInt; repeat' split
                                                                         all_goals omega
theorem compareInt_eq (a b : Int) : Lib.compareInt a b = 0 ↔ a = b := by unfold Lib.compareInt; repeat' split
                                                                         all_goals omega
theorem ordS_lt (r : Rc) (k : List UInt8) (s : Int) : ordS r k s < 0 ↔ (Lib.compareBytes r.key k < 0 ∨ (r.key = k ∧ s < r.seq)) := by
  unfold ordS orI
  split
  · rename_i h
    rw [compareInt_lt]
    constructor
    · intro h1; exact .inr ⟨compare_eq h, h1⟩
    · rintro (h1 | ⟨_, h1⟩)
      · omega
      · exact h1
  · rename_i h
    constructor
    · intro h1; exact .inl h1
    · rintro (h1 | ⟨h1, _⟩)
      · exact h1
      · rw [h1, compare_refl] at h; exact absurd rfl h
theorem ordS_eq (r : Rc) (k : List UInt8) (s : Int) : ordS r k s = 0 ↔ (r.key = k ∧ s = r.seq) := by
  unfold ordS orI
  split
  · rename_i h
    rw [compareInt_eq]
    exact ⟨fun h1 => ⟨compare_eq h, h1⟩, fun h1 => h1.2⟩
  · rename_i h
    constructor
    · intro h1; exact absurd h1 h
    · rintro ⟨h1, _⟩; rw [h1, compare_refl] at h; exact absurd rfl h
/-- One record stands ahead of another one. -/
def ahd (a b : Rc) : Prop := ordS a b.key b.seq < 0
theorem ahd_trans {a b : Rc} {k : List UInt8} {s : Int} (h1 : ahd a b) (h2 : ordS b k s < 0) : ordS a k s < 0 := by
  unfold ahd at h1
  rw [ordS_lt] at h1 h2 ⊢
  rcases h1 with h1 | ⟨e1, h1⟩ <;> rcases h2 with h2 | ⟨e2, h2⟩
  · exact .inl (compare_trans h1 h2)
  · exact .inl (by rw [← e2]; exact h1)
  · exact .inl (by rw [e1]; exact h2)
  · exact .inr ⟨e1.trans e2, by omega⟩
def Sorted (rs : List Rc) : Prop := rs.Pairwise ahd
/-- In a sorted list those ahead of a key at a moment stand in front. -/
theorem sorted_split (k : List UInt8) (s : Int) : ∀ (ns : List Nd), Sorted (ns.map Nd.r) → ∃ A B, ns = A ++ B ∧ (∀ a ∈ A, ordS a.r k s < 0) ∧ (∀ b ∈ B, ¬ ordS b.r k s < 0)
  | [], _ => ⟨[], [], rfl, by simp, by simp⟩
  | n :: ns, h => by
    unfold Sorted at h
    rw [List.map_cons, List.pairwise_cons] at h
    by_cases hn : ordS n.r k s < 0
    · obtain ⟨A, B, rfl, h1, h2⟩ := sorted_split k s ns h.2
      exact ⟨n :: A, B, rfl, by simpa [hn] using h1, h2⟩
    · refine ⟨[], n :: ns, rfl, by simp, fun b hb => ?_⟩
      rcases List.mem_cons.1 hb with rfl | hb
      · exact hn
      · intro hlt
        exact hn (ahd_trans (h.1 b.r (List.mem_map_of_mem hb)) hlt)
end Go.Proofs.Ytfcemlcocdhmfaa
