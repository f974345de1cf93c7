/- What is there of a list at a moment, in plain words: each key's newest record that is not behind the moment. -/
import Derived.Test.YtfcemlcocdhmfaaMR
namespace Go.Proofs.Ytfcemlcocdhmfaa
set_option linter.unusedVariables false
set_option linter.unusedSimpArgs false

abbrev Kv := List UInt8 × List UInt8
/-- One record after the other; d: the key that is done. -/
def atS (seq : Int) : Option (List UInt8) → List Rc → List Kv
  | _, [] => []
  | d, r :: rs => if seq < r.seq ∨ d = some r.key then atS seq d rs else (if r.del then [] else [(r.key, r.val)]) ++ atS seq (some r.key) rs
def atD (seq : Int) : Option (List UInt8) → List Rc → Option (List UInt8)
  | d, [] => d
  | d, r :: rs => if seq < r.seq ∨ d = some r.key then atD seq d rs else atD seq (some r.key) rs
theorem atS_app (seq : Int) : ∀ (a b : List Rc) (d : Option (List UInt8)), atS seq d (a ++ b) = atS seq d a ++ atS seq (atD seq d a) b
  | [], b, d => rfl
  | r :: a, b, d => by
    simp only [List.cons_append, atS, atD]
    split
    · exact atS_app seq a b d
    · rw [atS_app seq a b _, List.append_assoc]
theorem atD_from (seq : Int) : ∀ (a : List Rc) (d : Option (List UInt8)), atD seq d a = d ∨ ∃ r ∈ a, atD seq d a = some r.key
  | [], d => .inl rfl
  | r :: a, d => by
    simp only [atD]
    split
    · rcases atD_from seq a d with h | ⟨x, h1, h2⟩
      · exact .inl h
      · exact .inr ⟨x, List.mem_cons_of_mem _ h1, h2⟩
    · rcases atD_from seq a (some r.key) with h | ⟨x, h1, h2⟩
      · exact .inr ⟨r, List.mem_cons_self, h⟩
      · exact .inr ⟨x, List.mem_cons_of_mem _ h1, h2⟩
/-- What is there of the records of one key. -/
def atG (seq : Int) : List Rc → List Kv
  | [] => []
  | r :: g => if r.seq ≤ seq then (if r.del then [] else [(r.key, r.val)]) else atG seq g
theorem atS_seen (seq : Int) (k : List UInt8) : ∀ (g : List Rc), (∀ r ∈ g, r.key = k) → atS seq (some k) g = []
  | [], _ => rfl
  | r :: g, h => by
    rw [atS, if_pos (.inr (by rw [h r List.mem_cons_self]))]
    exact atS_seen seq k g fun x hx => h x (List.mem_cons_of_mem _ hx)
theorem atS_group (seq : Int) (k : List UInt8) : ∀ (g : List Rc) (d : Option (List UInt8)), (∀ r ∈ g, r.key = k) → d ≠ some k → atS seq d g = atG seq g
  | [], _, _, _ => rfl
  | r :: g, d, h, hd => by
    have hr := h r List.mem_cons_self
    have hg : ∀ x ∈ g, x.key = k := fun x hx => h x (List.mem_cons_of_mem _ hx)
    rw [atS, atG]
    by_cases h1 : r.seq ≤ seq
    · rw [if_pos h1, if_neg (by rintro (h2 | h2); omega; rw [hr] at h2; exact hd h2), hr, atS_seen seq k g hg]; simp
    · rw [if_neg h1, if_pos (.inl (by omega)), atS_group seq k g d hg hd]
/-- Keys between equal keys. -/
theorem key_le {a b : Rc} (h : ord2 a b < 0) : Lib.compareBytes a.key b.key ≤ 0 := by
  rcases (ord_lt a b).1 h with h | ⟨h, _⟩
  · omega
  · rw [h, compare_refl]; omega
theorem cb_le_trans {a b c : List UInt8} (h1 : Lib.compareBytes a b ≤ 0) (h2 : Lib.compareBytes b c ≤ 0) : Lib.compareBytes a c ≤ 0 := by
  by_cases e1 : Lib.compareBytes a b = 0
  · rw [compare_eq e1]; exact h2
  · by_cases e2 : Lib.compareBytes b c = 0
    · rw [← compare_eq e2]; exact h1
    · have := cb_trans a b c (by omega) (by omega); omega
theorem cb_lt_le {a b c : List UInt8} (h1 : Lib.compareBytes a b < 0) (h2 : Lib.compareBytes b c ≤ 0) : Lib.compareBytes a c < 0 := by
  by_cases e2 : Lib.compareBytes b c = 0
  · rw [← compare_eq e2]; exact h1
  · exact cb_trans a b c h1 (by omega)
theorem cb_ne {a b : List UInt8} (h : Lib.compareBytes a b < 0) : a ≠ b := fun e => by rw [e, compare_refl] at h; omega
theorem cb_lt_of {a b : List UInt8} (h : Lib.compareBytes a b ≤ 0) (h1 : a ≠ b) : Lib.compareBytes a b < 0 := by
  by_cases e : Lib.compareBytes a b = 0
  · exact absurd (compare_eq e) h1
  · omega
theorem cb_anti {a b : List UInt8} (h : Lib.compareBytes a b ≤ 0) (h1 : Lib.compareBytes b a ≤ 0) : a = b := by
  have := cb_swap a b
  exact compare_eq (by omega)
/-- A record that is seen at a moment. -/
structure Vis (m : Int) (L : List Rc) (r : Rc) : Prop where
  mem : r ∈ L
  le : r.seq ≤ m
  top : ∀ x ∈ L, x.key = r.key → x.seq ≤ m → x.seq ≤ r.seq
theorem srt_head {a : Rc} {L : List Rc} (h : Srt ord2 (a :: L)) : ∀ x ∈ L, ord2 a x < 0 := fun x hx => List.rel_of_pairwise_cons h hx
theorem atS_mem (m : Int) : ∀ (L : List Rc) (d : Option (List UInt8)), Srt ord2 L → (∀ k, d = some k → ∀ x ∈ L, Lib.compareBytes k x.key ≤ 0) →
    ∀ p, p ∈ atS m d L ↔ ∃ r, Vis m L r ∧ d ≠ some r.key ∧ r.del = false ∧ p = (r.key, r.val)
  | [], d, _, _, p => by
    simp only [atS, List.not_mem_nil, false_iff]
    rintro ⟨r, h, _⟩; exact absurd h.mem (by simp)
  | a :: L, d, hs, hd, p => by
    have hL := hs.of_cons
    have hh := srt_head hs
    have hd' : ∀ k, d = some k → ∀ x ∈ L, Lib.compareBytes k x.key ≤ 0 := fun k hk x hx => hd k hk x (List.mem_cons_of_mem _ hx)
    rw [atS]
    split
    · rename_i h
      rw [atS_mem m L d hL hd' p]
      constructor
      · rintro ⟨r, h1, h2, h3⟩
        refine ⟨r, ⟨List.mem_cons_of_mem _ h1.mem, h1.le, fun x hx hk hm => ?_⟩, h2, h3⟩
        rcases List.mem_cons.1 hx with e | hx
        · subst e
          rcases h with h | h
          · omega
          · rw [hk] at h; exact absurd h h2
        · exact h1.top x hx hk hm
      · rintro ⟨r, h1, h2, h3⟩
        refine ⟨r, ⟨?_, h1.le, fun x hx => h1.top x (List.mem_cons_of_mem _ hx)⟩, h2, h3⟩
        rcases List.mem_cons.1 h1.mem with e | hx
        · subst e
          rcases h with h | h
          · have := h1.le; omega
          · exact absurd h h2
        · exact hx
    · rename_i h
      have h1 : a.seq ≤ m := by
        by_cases h2 : m < a.seq
        · exact absurd (.inl h2) h
        · omega
      have h2 : d ≠ some a.key := fun e => h (.inr e)
      have hva : Vis m (a :: L) a := ⟨List.mem_cons_self, h1, fun x hx hk hm => by
        rcases List.mem_cons.1 hx with e | hx
        · rw [e]; exact Int.le_refl _
        · rcases (ord_lt a x).1 (hh x hx) with h3 | ⟨_, h3⟩
          · exact absurd hk.symm (cb_ne h3)
          · omega⟩
      have hda : ∀ k, some a.key = some k → ∀ x ∈ L, Lib.compareBytes k x.key ≤ 0 := fun k hk x hx => by
        injection hk with hk; rw [← hk]; exact key_le (hh x hx)
      rw [List.mem_append, atS_mem m L (some a.key) hL hda p]
      constructor
      · rintro (h3 | ⟨r, h3, h4, h5⟩)
        · cases e : a.del with
          | true => rw [e] at h3; simp at h3
          | false => rw [e] at h3; exact ⟨a, hva, h2, e, by simpa using h3⟩
        · have h4' : a.key ≠ r.key := fun e => h4 (by rw [e])
          refine ⟨r, ⟨List.mem_cons_of_mem _ h3.mem, h3.le, fun x hx hk hm => ?_⟩, fun e => ?_, h5⟩
          · rcases List.mem_cons.1 hx with e | hx
            · rw [e] at hk; exact absurd hk h4'
            · exact h3.top x hx hk hm
          · have h6 := cb_lt_of (hd _ e a List.mem_cons_self) (fun e' => h2 (by rw [e, e']))
            have h7 := cb_lt_le h6 (key_le (hh r h3.mem))
            exact cb_ne h7 rfl
      · rintro ⟨r, h3, h4, h5, h6⟩
        by_cases e : r.key = a.key
        · left
          rcases List.mem_cons.1 h3.mem with e' | hx
          · subst e'; rw [h5, h6]; simp
          · have h7 := h3.top a List.mem_cons_self e.symm h1
            rcases (ord_lt a r).1 (hh r hx) with h8 | ⟨_, h8⟩
            · exact absurd e.symm (cb_ne h8)
            · omega
        · right
          refine ⟨r, ⟨?_, h3.le, fun x hx => h3.top x (List.mem_cons_of_mem _ hx)⟩, fun e' => e (by injection e' with e'; exact e'.symm), h5, h6⟩
          rcases List.mem_cons.1 h3.mem with e' | hx
          · exact absurd (by rw [e']) e
          · exact hx
def ordK (a b : Kv) : Int := Lib.compareBytes a.1 b.1
theorem toK : TO ordK where
  refl a := compare_refl _
  flip a b := by unfold ordK; have := cb_swap a.1 b.1; omega
  trans a b c := cb_trans a.1 b.1 c.1
  left a b c h := by unfold ordK at h ⊢; rw [compare_eq h]
theorem atS_srt (m : Int) : ∀ (L : List Rc) (d : Option (List UInt8)), Srt ord2 L → (∀ k, d = some k → ∀ x ∈ L, Lib.compareBytes k x.key ≤ 0) → Srt ordK (atS m d L)
  | [], d, _, _ => List.Pairwise.nil
  | a :: L, d, hs, hd => by
    have hL := hs.of_cons
    have hh := srt_head hs
    have hda : ∀ k, some a.key = some k → ∀ x ∈ L, Lib.compareBytes k x.key ≤ 0 := fun k hk x hx => by
      injection hk with hk; rw [← hk]; exact key_le (hh x hx)
    rw [atS]
    split
    · exact atS_srt m L d hL fun k hk x hx => hd k hk x (List.mem_cons_of_mem _ hx)
    · have ih := atS_srt m L (some a.key) hL hda
      split
      · simpa using ih
      · refine List.Pairwise.cons (fun p hp => ?_) ih
        obtain ⟨r, h1, h2, h3, h4⟩ := (atS_mem m L (some a.key) hL hda p).1 hp
        rw [h4]
        exact cb_lt_of (key_le (hh r h1.mem)) fun e => h2 (congrArg some e)
theorem atS_ext {m : Int} {L M : List Rc} (hL : Srt ord2 L) (hM : Srt ord2 M)
    (h : ∀ k v, (∃ r, Vis m L r ∧ r.del = false ∧ r.key = k ∧ r.val = v) ↔ ∃ r, Vis m M r ∧ r.del = false ∧ r.key = k ∧ r.val = v) : atS m none L = atS m none M := by
  refine TO.ext toK (atS_srt m L none hL (by simp)) (atS_srt m M none hM (by simp)) fun p => ?_
  rw [atS_mem m L none hL (by simp), atS_mem m M none hM (by simp)]
  obtain ⟨k, v⟩ := p
  constructor
  · rintro ⟨r, h1, _, h2, h3⟩
    injection h3 with h3 h4
    obtain ⟨x, g1, g2, g3, g4⟩ := (h k v).1 ⟨r, h1, h2, h3.symm, h4.symm⟩
    exact ⟨x, g1, by simp, g2, by rw [g3, g4]⟩
  · rintro ⟨r, h1, _, h2, h3⟩
    injection h3 with h3 h4
    obtain ⟨x, g1, g2, g3, g4⟩ := (h k v).2 ⟨r, h1, h2, h3.symm, h4.symm⟩
    exact ⟨x, g1, by simp, g2, by rw [g3, g4]⟩
end Go.Proofs.Ytfcemlcocdhmfaa
