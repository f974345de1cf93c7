/- What is there at a moment, and what is kept: in plain words. -/
import Derived.Test.YtfcemlcocdhmfaaXG
/- What is there of a list at a moment, in plain words: each key's newest record that is not behind the moment. -/
namespace Go.Proofs.Ytfcemlcocdhmfaa
set_option linter.unusedVariables false
set_option linter.unusedSimpArgs false

abbrev Kv := List UInt8 × List UInt8
/-- One record after the other; d: the key that is done. -/
def atS (seq : Int) : Option (List UInt8) → List Rc → List Kv
  | _, [] => []
  | d, r :: rs => if seq < r.seq ∨ d = some r.key then atS seq d rs else (if r.del then [] else [(r.key, r.val)]) ++ atS seq (some r.key) rs
def atD (seq : Int) : Option (List UInt8) → List Rc → Option (List UInt8)
  | d, [] => d
  | d, r :: rs => if seq < r.seq ∨ d = some r.key then atD seq d rs else atD seq (some r.key) rs
theorem atS_app (seq : Int) : ∀ (a b : List Rc) (d : Option (List UInt8)), atS seq d (a ++ b) = atS seq d a ++ atS seq (atD seq d a) b
  | [], b, d => rfl
  | r :: a, b, d => by
    simp only [List.cons_append, atS, atD]
    split
    · exact atS_app seq a b d
    · rw [atS_app seq a b _, List.append_assoc]
theorem atD_from (seq : Int) : ∀ (a : List Rc) (d : Option (List UInt8)), atD seq d a = d ∨ ∃ r ∈ a, atD seq d a = some r.key
  | [], d => .inl rfl
  | r :: a, d => by
    simp only [atD]
    split
    · rcases atD_from seq a d with h | ⟨x, h1, h2⟩
      · exact .inl h
      · exact .inr ⟨x, List.mem_cons_of_mem _ h1, h2⟩
    · rcases atD_from seq a (some r.key) with h | ⟨x, h1, h2⟩
      · exact .inr ⟨r, List.mem_cons_self, h⟩
      · exact .inr ⟨x, List.mem_cons_of_mem _ h1, h2⟩
/-- What is there of the records of one key. -/
def atG (seq : Int) : List Rc → List Kv
  | [] => []
  | r :: g => if r.seq ≤ seq then (if r.del then [] else [(r.key, r.val)]) else atG seq g
theorem atS_seen (seq : Int) (k : List UInt8) : ∀ (g : List Rc), (∀ r ∈ g, r.key = k) → atS seq (some k) g = []
  | [], _ => rfl
  | r :: g, h => by
    rw [atS, if_pos (.inr (by rw [h r List.mem_cons_self]))]
    exact atS_seen seq k g fun x hx => h x (List.mem_cons_of_mem _ hx)
theorem atS_group (seq : Int) (k : List UInt8) : ∀ (g : List Rc) (d : Option (List UInt8)), (∀ r ∈ g, r.key = k) → d ≠ some k → atS seq d g = atG seq g
  | [], _, _, _ => rfl
  | r :: g, d, h, hd => by
    have hr := h r List.mem_cons_self
    have hg : ∀ x ∈ g, x.key = k := fun x hx => h x (List.mem_cons_of_mem _ hx)
    rw [atS, atG]
    by_cases h1 : r.seq ≤ seq
    · rw [if_pos h1, if_neg (by rintro (h2 | h2); omega; rw [hr] at h2; exact hd h2), hr, atS_seen seq k g hg]; simp
    · rw [if_neg h1, if_pos (.inl (by omega)), atS_group seq k g d hg hd]
/-- Keys between equal keys. -/
theorem key_le {a b : Rc} (h : ord2 a b < 0) : Lib.compareBytes a.key b.key ≤ 0 := by
  rcases (ord_lt a b).1 h with h | ⟨h, _⟩
  · omega
  · rw [h, compare_refl]; omega
theorem cb_le_trans {a b c : List UInt8} (h1 : Lib.compareBytes a b ≤ 0) (h2 : Lib.compareBytes b c ≤ 0) : Lib.compareBytes a c ≤ 0 := by
  by_cases e1 : Lib.compareBytes a b = 0
  · rw [compare_eq e1]; exact h2
  · by_cases e2 : Lib.compareBytes b c = 0
    · rw [← compare_eq e2]; exact h1
    · have := cb_trans a b c (by omega) (by omega); omega
theorem cb_lt_le {a b c : List UInt8} (h1 : Lib.compareBytes a b < 0) (h2 : Lib.compareBytes b c ≤ 0) : Lib.compareBytes a c < 0 := by
  by_cases e2 : Lib.compareBytes b c = 0
  · rw [← compare_eq e2]; exact h1
  · exact cb_trans a b c h1 (by omega)
theorem cb_ne {a b : List UInt8} (h : Lib.compareBytes a b < 0) : a ≠ b := fun e => by rw [e, compare_refl] at h; omega
theorem cb_lt_of {a b : List UInt8} (h : Lib.compareBytes a b ≤ 0) (h1 : a ≠ b) : Lib.compareBytes a b < 0 := by
  by_cases e : Lib.compareBytes a b = 0
  · exact absurd (compare_eq e) h1
  · omega
theorem cb_anti {a b : List UInt8} (h : Lib.compareBytes a b ≤ 0) (h1 : Lib.compareBytes b a ≤ 0) : a = b := by
  have := cb_swap a b
  exact compare_eq (by omega)
/-- A record that is seen at a moment. -/
structure Vis (m : Int) (L : List Rc) (r : Rc) : Prop where
  mem : r ∈ L
  le : r.seq ≤ m
  top : ∀ x ∈ L, x.key = r.key → x.seq ≤ m → x.seq ≤ r.seq
theorem srt_head {a : Rc} {L : List Rc} (h : Srt ord2 (a :: L)) : ∀ x ∈ L, ord2 a x < 0 := fun x hx => List.rel_of_pairwise_cons h hx
theorem atS_mem (m : Int) : ∀ (L : List Rc) (d : Option (List UInt8)), Srt ord2 L → (∀ k, d = some k → ∀ x ∈ L, Lib.compareBytes k x.key ≤ 0) →
    ∀ p, p ∈ atS m d L ↔ ∃ r, Vis m L r ∧ d ≠ some r.key ∧ r.del = false ∧ p = (r.key, r.val)
  | [], d, _, _, p => by
    simp only [atS, List.not_mem_nil, false_iff]
    rintro ⟨r, h, _⟩; exact absurd h.mem (by simp)
  | a :: L, d, hs, hd, p => by
    have hL := hs.of_cons
    have hh := srt_head hs
    have hd' : ∀ k, d = some k → ∀ x ∈ L, Lib.compareBytes k x.key ≤ 0 := fun k hk x hx => hd k hk x (List.mem_cons_of_mem _ hx)
    rw [atS]
    split
    · rename_i h
      rw [atS_mem m L d hL hd' p]
      constructor
      · rintro ⟨r, h1, h2, h3⟩
        refine ⟨r, ⟨List.mem_cons_of_mem _ h1.mem, h1.le, fun x hx hk hm => ?_⟩, h2, h3⟩
        rcases List.mem_cons.1 hx with e | hx
        · subst e
          rcases h with h | h
          · omega
          · rw [hk] at h; exact absurd h h2
        · exact h1.top x hx hk hm
      · rintro ⟨r, h1, h2, h3⟩
        refine ⟨r, ⟨?_, h1.le, fun x hx => h1.top x (List.mem_cons_of_mem _ hx)⟩, h2, h3⟩
        rcases List.mem_cons.1 h1.mem with e | hx
        · subst e
          rcases h with h | h
          · have := h1.le; omega
          · exact absurd h h2
        · exact hx
    · rename_i h
      have h1 : a.seq ≤ m := by
        by_cases h2 : m < a.seq
        · exact absurd (.inl h2) h
        · omega
      have h2 : d ≠ some a.key := fun e => h (.inr e)
      have hva : Vis m (a :: L) a := ⟨List.mem_cons_self, h1, fun x hx hk hm => by
        rcases List.mem_cons.1 hx with e | hx
        · rw [e]; exact Int.le_refl _
        · rcases (ord_lt a x).1 (hh x hx) with h3 | ⟨_, h3⟩
          · exact absurd hk.symm (cb_ne h3)
          · omega⟩
      have hda : ∀ k, some a.key = some k → ∀ x ∈ L, Lib.compareBytes k x.key ≤ 0 := fun k hk x hx => by
        injection hk with hk; rw [← hk]; exact key_le (hh x hx)
      rw [List.mem_append, atS_mem m L (some a.key) hL hda p]
      constructor
      · rintro (h3 | ⟨r, h3, h4, h5⟩)
        · cases e : a.del with
          | true => rw [e] at h3; simp at h3
          | false => rw [e] at h3; exact ⟨a, hva, h2, e, by simpa using h3⟩
        · have h4' : a.key ≠ r.key := fun e => h4 (by rw [e])
          refine ⟨r, ⟨List.mem_cons_of_mem _ h3.mem, h3.le, fun x hx hk hm => ?_⟩, fun e => ?_, h5⟩
          · rcases List.mem_cons.1 hx with e | hx
            · rw [e] at hk; exact absurd hk h4'
            · exact h3.top x hx hk hm
          · have h6 := cb_lt_of (hd _ e a List.mem_cons_self) (fun e' => h2 (by rw [e, e']))
            have h7 := cb_lt_le h6 (key_le (hh r h3.mem))
            exact cb_ne h7 rfl
      · rintro ⟨r, h3, h4, h5, h6⟩
        by_cases e : r.key = a.key
        · left
          rcases List.mem_cons.1 h3.mem with e' | hx
          · subst e'; rw [h5, h6]; simp
          · have h7 := h3.top a List.mem_cons_self e.symm h1
            rcases (ord_lt a r).1 (hh r hx) with h8 | ⟨_, h8⟩
            · exact absurd e.symm (cb_ne h8)
            · omega
        · right
          refine ⟨r, ⟨?_, h3.le, fun x hx => h3.top x (List.mem_cons_of_mem _ hx)⟩, fun e' => e (by injection e' with e'; exact e'.symm), h5, h6⟩
          rcases List.mem_cons.1 h3.mem with e' | hx
          · exact absurd (by rw [e']) e
          · exact hx
def ordK (a b : Kv) : Int := Lib.compareBytes a.1 b.1
theorem toK : TO ordK where
  refl a := compare_refl _
  flip a b := by unfold ordK; have := cb_swap a.1 b.1; omega
  trans a b c := cb_trans a.1 b.1 c.1
  left a b c h := by unfold ordK at h ⊢; rw [compare_eq h]
theorem atS_srt (m : Int) : ∀ (L : List Rc) (d : Option (List UInt8)), Srt ord2 L → (∀ k, d = some k → ∀ x ∈ L, Lib.compareBytes k x.key ≤ 0) → Srt ordK (atS m d L)
  | [], d, _, _ => List.Pairwise.nil
  | a :: L, d, hs, hd => by
    have hL := hs.of_cons
    have hh := srt_head hs
    have hda : ∀ k, some a.key = some k → ∀ x ∈ L, Lib.compareBytes k x.key ≤ 0 := fun k hk x hx => by
      injection hk with hk; rw [← hk]; exact key_le (hh x hx)
    rw [atS]
    split
    · exact atS_srt m L d hL fun k hk x hx => hd k hk x (List.mem_cons_of_mem _ hx)
    · have ih := atS_srt m L (some a.key) hL hda
      split
      · simpa using ih
      · refine List.Pairwise.cons (fun p hp => ?_) ih
        obtain ⟨r, h1, h2, h3, h4⟩ := (atS_mem m L (some a.key) hL hda p).1 hp
        rw [h4]
        exact cb_lt_of (key_le (hh r h1.mem)) fun e => h2 (congrArg some e)
theorem atS_ext {m : Int} {L M : List Rc} (hL : Srt ord2 L) (hM : Srt ord2 M)
    (h : ∀ k v, (∃ r, Vis m L r ∧ r.del = false ∧ r.key = k ∧ r.val = v) ↔ ∃ r, Vis m M r ∧ r.del = false ∧ r.key = k ∧ r.val = v) : atS m none L = atS m none M := by
  refine TO.ext toK (atS_srt m L none hL (by simp)) (atS_srt m M none hM (by simp)) fun p => ?_
  rw [atS_mem m L none hL (by simp), atS_mem m M none hM (by simp)]
  obtain ⟨k, v⟩ := p
  constructor
  · rintro ⟨r, h1, _, h2, h3⟩
    injection h3 with h3 h4
    obtain ⟨x, g1, g2, g3, g4⟩ := (h k v).1 ⟨r, h1, h2, h3.symm, h4.symm⟩
    exact ⟨x, g1, by simp, g2, by rw [g3, g4]⟩
  · rintro ⟨r, h1, _, h2, h3⟩
    injection h3 with h3 h4
    obtain ⟨x, g1, g2, g3, g4⟩ := (h k v).2 ⟨r, h1, h2, h3.symm, h4.symm⟩
    exact ⟨x, g1, by simp, g2, by rw [g3, g4]⟩
end Go.Proofs.Ytfcemlcocdhmfaa
/- Which records are kept, in plain words. -/
namespace Go.Proofs.Ytfcemlcocdhmfaa
set_option linter.unusedVariables false
set_option linter.unusedSimpArgs false

def seenS (ms : List Int) (p : Option Rc) (r : Rc) : Bool := match p with
  | none => true
  | some a => !decide (a.key = r.key) || ms.any fun m => decide (r.seq ≤ m) && decide (m < a.seq)
def keptS (ms : List Int) : Option Rc → List Rc → List Rc
  | _, [] => []
  | p, r :: rs => (if seenS ms p r = true then [r] else []) ++ keptS ms (some r) rs
def isLast (o : List Rc) (r : Rc) : Bool := match o with
  | [] => true
  | x :: _ => !decide (x.key = r.key)
def dropS (bottom : Bool) : List Rc → List Rc
  | [] => []
  | r :: rs => if (bottom && r.del && isLast (dropS bottom rs) r) = true then dropS bottom rs else r :: dropS bottom rs
def keepS (ms : List Int) (bottom : Bool) (l : List Rc) : List Rc := dropS bottom (keptS ms none l)
theorem kept_sub (ms : List Int) : ∀ (L : List Rc) (p : Option Rc), (keptS ms p L).Sublist L
  | [], p => List.Sublist.refl _
  | a :: L, p => by
    rw [keptS]
    split
    · exact (kept_sub ms L (some a)).cons_cons a
    · exact (kept_sub ms L (some a)).cons a
theorem drop_sub (b : Bool) : ∀ (L : List Rc), (dropS b L).Sublist L
  | [] => List.Sublist.refl _
  | a :: L => by
    rw [dropS]
    split
    · exact (drop_sub b L).cons a
    · exact (drop_sub b L).cons_cons a
theorem keep_sub (ms : List Int) (b : Bool) (L : List Rc) : (keepS ms b L).Sublist L := (drop_sub b _).trans (kept_sub ms L none)
theorem drop_no : ∀ (L : List Rc), dropS false L = L
  | [] => rfl
  | a :: L => by rw [dropS]; simp [drop_no L]
/-- A record that is needed. -/
def SeenIn (ms : List Int) (L : List Rc) (r : Rc) : Prop :=
  (∀ x ∈ L, x.key = r.key → x.seq ≤ r.seq) ∨ ∃ m ∈ ms, r.seq ≤ m ∧ ∀ x ∈ L, x.key = r.key → r.seq < x.seq → m < x.seq
theorem SeenIn.sub {ms : List Int} {L M : List Rc} {r : Rc} (h : SeenIn ms L r) (hs : ∀ x ∈ M, x ∈ L) : SeenIn ms M r := by
  rcases h with h | ⟨m, h1, h2, h3⟩
  · exact .inl fun x hx => h x (hs x hx)
  · exact .inr ⟨m, h1, h2, fun x hx => h3 x (hs x hx)⟩
theorem same_key {a b c : Rc} (h1 : ord2 a b < 0) (h2 : ord2 b c < 0) (h : a.key = c.key) : b.key = c.key := by
  have g1 := key_le h1; have g2 := key_le h2
  rw [h] at g1
  exact (cb_anti g1 g2).symm
theorem seq_lt {a b : Rc} (h : ord2 a b < 0) (e : a.key = b.key) : b.seq < a.seq := by
  rcases (ord_lt a b).1 h with h | ⟨_, h⟩
  · exact absurd e (cb_ne h)
  · exact h
theorem kept_mem (ms : List Int) : ∀ (L : List Rc) (p : Option Rc), Srt ord2 (p.toList ++ L) → ∀ r, r ∈ keptS ms p L ↔ r ∈ L ∧ SeenIn ms (p.toList ++ L) r
  | [], p, _, r => by simp [keptS]
  | a :: L, p, hs, r => by
    have hs' : Srt ord2 (a :: L) := by
      cases p with
      | none => exact hs
      | some q => exact List.Pairwise.of_cons hs
    have hh := srt_head hs'
    have hpa : ∀ q, p = some q → ord2 q a < 0 := fun q e => by subst e; exact srt_head hs a List.mem_cons_self
    have hpL : ∀ q, p = some q → ∀ x ∈ L, ord2 q x < 0 := fun q e x hx => by subst e; exact srt_head hs x (List.mem_cons_of_mem _ hx)
    have ha : seenS ms p a = true ↔ SeenIn ms (p.toList ++ a :: L) a := by
      have hl : ∀ x ∈ a :: L, x.key = a.key → x.seq ≤ a.seq := fun x hx hk => by
        rcases List.mem_cons.1 hx with e | hx
        · rw [e]; exact Int.le_refl _
        · have := seq_lt (hh x hx) hk.symm; omega
      cases p with
      | none => exact ⟨fun _ => .inl hl, fun _ => rfl⟩
      | some q =>
        have hq := hpa q rfl
        by_cases e : q.key = a.key
        · have hqs := seq_lt hq e
          have : seenS ms (some q) a = true ↔ ∃ m ∈ ms, a.seq ≤ m ∧ m < q.seq := by simp [seenS, e]
          rw [this]
          constructor
          · rintro ⟨m, h1, h2, h3⟩
            refine .inr ⟨m, h1, h2, fun x hx hk hlt => ?_⟩
            rcases List.mem_cons.1 (show x ∈ q :: (a :: L) from hx) with e' | hx
            · rw [e']; exact h3
            · have := hl x hx hk; omega
          · rintro (h | ⟨m, h1, h2, h3⟩)
            · have := h q List.mem_cons_self e; omega
            · exact ⟨m, h1, h2, h3 q List.mem_cons_self e hqs⟩
        · have : seenS ms (some q) a = true := by simp [seenS, e]
          rw [this]
          refine ⟨fun _ => .inl fun x hx hk => ?_, fun _ => rfl⟩
          rcases List.mem_cons.1 (show x ∈ q :: (a :: L) from hx) with e' | hx
          · rw [e'] at hk; exact absurd hk e
          · exact hl x hx hk
    have hr : ∀ r ∈ L, SeenIn ms (a :: L) r ↔ SeenIn ms (p.toList ++ a :: L) r := fun r hrL => by
      refine ⟨fun h => ?_, fun h => h.sub fun x hx => List.mem_append_right _ hx⟩
      cases p with
      | none => exact h
      | some q =>
        by_cases e : q.key = r.key
        · have e1 := same_key (hpa q rfl) (hh r hrL) e
          have l1 := seq_lt (hh r hrL) e1
          have l2 := seq_lt (hpa q rfl) (e.trans e1.symm)
          rcases h with h | ⟨m, h1, h2, h3⟩
          · have := h a List.mem_cons_self e1; omega
          · refine .inr ⟨m, h1, h2, fun x hx hk hlt => ?_⟩
            rcases List.mem_cons.1 (show x ∈ q :: (a :: L) from hx) with e' | hx
            · rw [e']; have := h3 a List.mem_cons_self e1 l1; omega
            · exact h3 x hx hk hlt
        · rcases h with h | ⟨m, h1, h2, h3⟩
          · refine .inl fun x hx hk => ?_
            rcases List.mem_cons.1 (show x ∈ q :: (a :: L) from hx) with e' | hx
            · rw [e'] at hk; exact absurd hk e
            · exact h x hx hk
          · refine .inr ⟨m, h1, h2, fun x hx hk hlt => ?_⟩
            rcases List.mem_cons.1 (show x ∈ q :: (a :: L) from hx) with e' | hx
            · rw [e'] at hk; exact absurd hk e
            · exact h3 x hx hk hlt
    have ih := kept_mem ms L (some a) hs' r
    rw [keptS, List.mem_append, ih]
    have hne : r ∈ L → r ≠ a := fun h e => by have h1 := hh r h; rw [e, toOrd.refl] at h1; omega
    constructor
    · rintro (h | ⟨h1, h2⟩)
      · by_cases hx : seenS ms p a = true
        · rw [if_pos hx] at h
          rw [List.mem_singleton.1 h]
          exact ⟨List.mem_cons_self, ha.1 hx⟩
        · rw [if_neg hx] at h; simp at h
      · exact ⟨List.mem_cons_of_mem _ h1, (hr r h1).1 h2⟩
    · rintro ⟨h1, h2⟩
      rcases List.mem_cons.1 h1 with e | h1
      · left; subst e; rw [if_pos (ha.2 h2)]; simp
      · exact .inr ⟨h1, (hr r h1).2 h2⟩
theorem isLast_iff {o : List Rc} {r : Rc} (hs : Srt ord2 (r :: o)) : isLast o r = true ↔ ∀ x ∈ o, x.key ≠ r.key := by
  cases o with
  | nil => simp [isLast]
  | cons a o =>
    have h1 := srt_head hs a List.mem_cons_self
    simp only [isLast, Bool.not_eq_true', decide_eq_false_iff_not]
    refine ⟨fun h x hx e => ?_, fun h => h a List.mem_cons_self⟩
    rcases List.mem_cons.1 hx with e' | hx
    · rw [e'] at e; exact h e
    · have h2 := srt_head hs.of_cons x hx
      exact h ((same_key h1 h2 e.symm).trans e)
theorem drop_mem (b : Bool) : ∀ (L : List Rc), Srt ord2 L → ∀ r, r ∈ dropS b L ↔ r ∈ L ∧ (b = false ∨ ∃ x ∈ L, x.key = r.key ∧ x.seq ≤ r.seq ∧ x.del = false)
  | [], _, r => by simp [dropS]
  | a :: L, hs, r => by
    have hh := srt_head hs
    have ih := drop_mem b L hs.of_cons
    have hsd : Srt ord2 (a :: dropS b L) := hs.sublist ((drop_sub b L).cons_cons a)
    have hl := isLast_iff hsd
    have hne : r ∈ L → r ≠ a := fun h e => by have h1 := hh r h; rw [e, toOrd.refl] at h1; omega
    have hL : ∀ r ∈ L, (∃ x ∈ L, x.key = r.key ∧ x.seq ≤ r.seq ∧ x.del = false) ↔ ∃ x ∈ a :: L, x.key = r.key ∧ x.seq ≤ r.seq ∧ x.del = false := fun r hr => by
      constructor
      · rintro ⟨x, h1, h2⟩; exact ⟨x, List.mem_cons_of_mem _ h1, h2⟩
      · rintro ⟨x, h1, h2, h3, h4⟩
        rcases List.mem_cons.1 h1 with e | h1
        · subst e; have := seq_lt (hh r hr) h2; omega
        · exact ⟨x, h1, h2, h3, h4⟩
    rw [dropS]
    by_cases hc : (b && a.del && isLast (dropS b L) a) = true
    · rw [if_pos hc, ih r]
      simp only [Bool.and_eq_true] at hc
      obtain ⟨⟨hb, hd⟩, hla⟩ := hc
      have hno := hl.1 hla
      constructor
      · rintro ⟨h1, h2⟩
        refine ⟨List.mem_cons_of_mem _ h1, ?_⟩
        rcases h2 with h2 | h2
        · exact .inl h2
        · exact .inr ((hL r h1).1 h2)
      · rintro ⟨h1, h2⟩
        rcases h2 with h2 | ⟨x, h2, h3, h4, h5⟩
        · rw [hb] at h2; exact absurd h2 (by decide)
        · rcases List.mem_cons.1 h1 with e | h1
          · subst e
            rcases List.mem_cons.1 h2 with e | h2
            · subst e; rw [hd] at h5; exact absurd h5 (by decide)
            · exact absurd h3 (hno x ((ih x).2 ⟨h2, .inr ⟨x, h2, rfl, Int.le_refl _, h5⟩⟩))
          · exact ⟨h1, .inr ((hL r h1).2 ⟨x, h2, h3, h4, h5⟩)⟩
    · rw [if_neg hc, List.mem_cons, ih r]
      constructor
      · rintro (e | ⟨h1, h2⟩)
        · subst e
          refine ⟨List.mem_cons_self, ?_⟩
          cases hb : b with
          | false => exact .inl rfl
          | true =>
            right
            cases hd : r.del with
            | false => exact ⟨r, List.mem_cons_self, rfl, Int.le_refl _, hd⟩
            | true =>
              rw [hb, hd] at hc
              simp only [Bool.and_self, Bool.true_and] at hc
              rw [hb] at hl ih
              have : ¬ ∀ x ∈ dropS true L, x.key ≠ r.key := fun h => hc (hl.2 h)
              obtain ⟨x, hx⟩ := Classical.not_forall.1 this
              obtain ⟨hx, hk⟩ := Classical.not_imp.1 hx
              have hk := Classical.not_not.1 hk
              obtain ⟨h1, h2⟩ := (ih x).1 hx
              rcases h2 with h2 | ⟨y, g1, g2, g3, g4⟩
              · exact absurd h2 (by decide)
              · have := seq_lt (hh x h1) hk.symm
                exact ⟨y, List.mem_cons_of_mem _ g1, g2.trans hk, by omega, g4⟩
        · refine ⟨List.mem_cons_of_mem _ h1, ?_⟩
          rcases h2 with h2 | h2
          · exact .inl h2
          · exact .inr ((hL r h1).1 h2)
      · rintro ⟨h1, h2⟩
        rcases List.mem_cons.1 h1 with e | h1
        · exact .inl e
        · right
          refine ⟨h1, ?_⟩
          rcases h2 with h2 | h2
          · exact .inl h2
          · exact .inr ((hL r h1).2 h2)
theorem keep_srt (ms : List Int) (b : Bool) {L : List Rc} (h : Srt ord2 L) : Srt ord2 (keepS ms b L) := h.sublist (keep_sub ms b L)
theorem keep_mem (ms : List Int) (b : Bool) {L : List Rc} (h : Srt ord2 L) (r : Rc) : r ∈ keepS ms b L ↔ (r ∈ L ∧ SeenIn ms L r) ∧ (b = false ∨ ∃ x ∈ L, SeenIn ms L x ∧ x.key = r.key ∧ x.seq ≤ r.seq ∧ x.del = false) := by
  have hk : Srt ord2 (keptS ms none L) := h.sublist (kept_sub ms L none)
  have hm := kept_mem ms L none h
  unfold keepS
  rw [drop_mem b _ hk r, hm r]
  refine and_congr Iff.rfl (or_congr Iff.rfl ?_)
  constructor
  · rintro ⟨x, h1, h2⟩; exact ⟨x, ((hm x).1 h1).1, ((hm x).1 h1).2, h2⟩
  · rintro ⟨x, h1, h2, h3⟩; exact ⟨x, (hm x).2 ⟨h1, h2⟩, h3⟩
/-- What was kept is kept again. -/
theorem keep_again (ms : List Int) (b : Bool) {L : List Rc} (h : Srt ord2 L) : keepS ms b (keepS ms b L) = keepS ms b L := by
  have hk := keep_srt ms b h
  refine TO.ext toOrd (keep_srt ms b hk) hk fun r => ⟨fun hr => ((keep_mem ms b hk r).1 hr).1.1, fun hr => ?_⟩
  have hsub : ∀ x ∈ keepS ms b L, x ∈ L := fun x hx => ((keep_mem ms b h x).1 hx).1.1
  obtain ⟨⟨h1, h2⟩, h3⟩ := (keep_mem ms b h r).1 hr
  refine (keep_mem ms b hk r).2 ⟨⟨hr, h2.sub hsub⟩, ?_⟩
  rcases h3 with h3 | ⟨x, g1, g2, g3, g4, g5⟩
  · exact .inl h3
  · exact .inr ⟨x, (keep_mem ms b h x).2 ⟨⟨g1, g2⟩, .inr ⟨x, g1, g2, rfl, Int.le_refl _, g5⟩⟩, g2.sub hsub, g3, g4, g5⟩
/-- The newest one that is not behind a moment. -/
theorem vis_ex (m : Int) : ∀ (L : List Rc) (r : Rc), r ∈ L → r.seq ≤ m → ∃ x, Vis m L x ∧ x.key = r.key ∧ r.seq ≤ x.seq
  | [], r, h, _ => by simp at h
  | a :: L, r, h, hm => by
    have step : ∀ x, Vis m L x → x.key = r.key → r.seq ≤ x.seq → ∃ x, Vis m (a :: L) x ∧ x.key = r.key ∧ r.seq ≤ x.seq := fun x hx hk hl => by
      by_cases ha : a.key = x.key ∧ a.seq ≤ m ∧ x.seq < a.seq
      · refine ⟨a, ⟨List.mem_cons_self, ha.2.1, fun y hy hk' hm' => ?_⟩, ha.1.trans hk, by omega⟩
        rcases List.mem_cons.1 hy with e | hy
        · rw [e]; exact Int.le_refl _
        · have := hx.top y hy (hk'.trans ha.1) hm'; omega
      · refine ⟨x, ⟨List.mem_cons_of_mem _ hx.mem, hx.le, fun y hy hk' hm' => ?_⟩, hk, hl⟩
        rcases List.mem_cons.1 hy with e | hy
        · subst e
          by_cases h2 : y.seq ≤ x.seq
          · exact h2
          · exact absurd ⟨hk', hm', by omega⟩ ha
        · exact hx.top y hy hk' hm'
    by_cases hr : r ∈ L
    · obtain ⟨x, h1, h2, h3⟩ := vis_ex m L r hr hm
      exact step x h1 h2 h3
    · have e : r = a := by
        rcases List.mem_cons.1 h with e | h
        · exact e
        · exact absurd h hr
      subst e
      by_cases hx : ∃ y ∈ L, y.key = r.key ∧ y.seq ≤ m
      · obtain ⟨y, h1, h2, h3⟩ := hx
        obtain ⟨x, g1, g2, g3⟩ := vis_ex m L y h1 h3
        by_cases hl : r.seq ≤ x.seq
        · exact step x g1 (g2.trans h2) hl
        · refine ⟨r, ⟨List.mem_cons_self, hm, fun z hz hk hz' => ?_⟩, rfl, Int.le_refl _⟩
          rcases List.mem_cons.1 hz with e | hz
          · rw [e]; exact Int.le_refl _
          · have := g1.top z hz (hk.trans (g2.trans h2).symm) hz'; omega
      · refine ⟨r, ⟨List.mem_cons_self, hm, fun z hz hk hz' => ?_⟩, rfl, Int.le_refl _⟩
        rcases List.mem_cons.1 hz with e | hz
        · rw [e]; exact Int.le_refl _
        · exact absurd ⟨z, hz, hk, hz'⟩ hx
/-- Moments at which what is kept tells all. -/
def Good (ms : List Int) (L : List Rc) (m : Int) : Prop := m ∈ ms ∨ ∀ r ∈ L, r.seq ≤ m
theorem Good.seen {ms : List Int} {L : List Rc} {m : Int} (h : Good ms L m) {r : Rc} (hv : Vis m L r) : SeenIn ms L r := by
  rcases h with h | h
  · refine .inr ⟨m, h, hv.le, fun x hx hk hl => ?_⟩
    by_cases h1 : x.seq ≤ m
    · have := hv.top x hx hk h1; omega
    · omega
  · exact .inl fun x hx hk => hv.top x hx hk (h x hx)
/-- What is kept tells at the moments what the whole list told. -/
theorem same_at {ms : List Int} {b : Bool} {L : List Rc} (hs : Srt ord2 L) {m : Int} (hg : Good ms L m) : atS m none (keepS ms b L) = atS m none L := by
  refine atS_ext (keep_srt ms b hs) hs fun k v => ?_
  have hm := keep_mem ms b hs
  constructor
  · rintro ⟨r, h1, h2, h3, h4⟩
    have hr := (hm r).1 h1.mem
    refine ⟨r, ⟨hr.1.1, h1.le, fun x hx hk hxm => ?_⟩, h2, h3, h4⟩
    obtain ⟨y, g1, g2, g3⟩ := vis_ex m L x hx hxm
    have hy := hg.seen g1
    have hl := g1.top r hr.1.1 (hk.symm.trans g2.symm) h1.le
    by_cases e : y.seq ≤ r.seq
    · omega
    · have hyk : y ∈ keepS ms b L := (hm y).2 ⟨⟨g1.mem, hy⟩, .inr ⟨r, hr.1.1, hr.1.2, by rw [g2, hk], hl, h2⟩⟩
      have := h1.top y hyk (g2.trans hk) g1.le
      omega
  · rintro ⟨r, h1, h2, h3, h4⟩
    exact ⟨r, ⟨(hm r).2 ⟨⟨h1.mem, hg.seen h1⟩, .inr ⟨r, h1.mem, hg.seen h1, rfl, Int.le_refl _, h2⟩⟩, h1.le, fun x hx => h1.top x ((hm x).1 hx).1.1⟩, h2, h3, h4⟩
/-- Together with older records, too. -/
theorem below_at {ms : List Int} {L old X Y : List Rc} (hs : Srt ord2 L) (hX : Srt ord2 X) (hY : Srt ord2 Y) (mX : ∀ r, r ∈ X ↔ r ∈ keepS ms false L ∨ r ∈ old) (mY : ∀ r, r ∈ Y ↔ r ∈ L ∨ r ∈ old)
    (hold : ∀ r ∈ L, ∀ o ∈ old, r.key = o.key → o.seq < r.seq) {m : Int} (hg : Good ms L m) : atS m none X = atS m none Y := by
  have hm := keep_mem ms false hs
  have hkL : ∀ r, r ∈ keepS ms false L ↔ r ∈ L ∧ SeenIn ms L r := fun r => by rw [hm r]; simp
  have hsub : ∀ x ∈ X, x ∈ Y := fun x hx => by
    rcases (mX x).1 hx with h | h
    · exact (mY x).2 (.inl ((hkL x).1 h).1)
    · exact (mY x).2 (.inr h)
  have key : ∀ r ∈ X, ∀ x ∈ Y, x.key = r.key → x.seq ≤ m → ∃ y ∈ X, y.key = r.key ∧ y.seq ≤ m ∧ x.seq ≤ y.seq := fun r hr x hx hk hxm => by
    rcases (mY x).1 hx with h | h
    · obtain ⟨y, g1, g2, g3⟩ := vis_ex m L x h hxm
      exact ⟨y, (mX y).2 (.inl ((hkL y).2 ⟨g1.mem, hg.seen g1⟩)), g2.trans hk, g1.le, g3⟩
    · exact ⟨x, (mX x).2 (.inr h), hk, hxm, Int.le_refl _⟩
  have vis : ∀ r, Vis m X r ↔ Vis m Y r := fun r => by
    constructor
    · intro h
      refine ⟨hsub r h.mem, h.le, fun x hx hk hxm => ?_⟩
      obtain ⟨y, g1, g2, g3, g4⟩ := key r h.mem x hx hk hxm
      have := h.top y g1 g2 g3; omega
    · intro h
      refine ⟨?_, h.le, fun x hx => h.top x (hsub x hx)⟩
      rcases (mY r).1 h.mem with h1 | h1
      · have hv : Vis m L r := ⟨h1, h.le, fun x hx => h.top x ((mY x).2 (.inl hx))⟩
        exact (mX r).2 (.inl ((hkL r).2 ⟨h1, hg.seen hv⟩))
      · exact (mX r).2 (.inr h1)
  exact atS_ext hX hY fun k v => ⟨fun ⟨r, h1, h2⟩ => ⟨r, (vis r).1 h1, h2⟩, fun ⟨r, h1, h2⟩ => ⟨r, (vis r).2 h1, h2⟩⟩
end Go.Proofs.Ytfcemlcocdhmfaa
/- Merged lists: how long they are; of two lists, either way round. -/
namespace Go.Proofs.Ytfcemlcocdhmfaa
set_option linter.unusedVariables false
set_option linter.unusedSimpArgs false

theorem atS_len (seq : Int) : ∀ (l : List Rc) (d : Option (List UInt8)), (atS seq d l).length ≤ l.length
  | [], d => by simp [atS]
  | r :: l, d => by
    rw [atS]
    split
    · have := atS_len seq l d; simp; omega
    · have := atS_len seq l (some r.key); split <;> simp <;> omega
section
variable {α : Type} {o : α → α → Int}
theorem twoG_len : ∀ (xs bs : List α), (two o xs bs).length ≤ xs.length + bs.length
  | [], bs => by simp [two]
  | a :: xs, [] => by simp [two]
  | a :: xs, b :: bs => by
    rw [two]
    have h1 := twoG_len xs (b :: bs); have h2 := twoG_len (a :: xs) bs; have h3 := twoG_len xs bs
    simp only [List.length_cons] at h1 h2 ⊢
    split
    · simp only [List.length_cons]; omega
    · split <;> simp only [List.length_cons] <;> omega
termination_by xs bs => xs.length + bs.length
theorem two_nr (l : List α) : two o l [] = l := by cases l <;> simp [two]
theorem two_nl (l : List α) : two o [] l = l := by cases l <;> simp [two]
theorem merge_ex (T : TO o) : ∀ (n : Nat) (L : List (List α)), n ≤ L.length → (∀ l ∈ L, Srt o l) → ∃ out, IsMerge o (L.take n) out ∧ out.length ≤ ((L.take n).map List.length).sum
  | 0, L, _, _ => ⟨[], by rw [List.take_zero]; exact merge_nil, by simp⟩
  | n + 1, L, hn, hs => by
    obtain ⟨out, h1, h2⟩ := merge_ex T n L (by omega) hs
    have hl : n < L.length := by omega
    refine ⟨two o out L[n], ?_, ?_⟩
    · rw [List.take_succ_eq_append_getElem hl]; exact h1.snoc T (hs _ (List.getElem_mem hl))
    · have := twoG_len (o := o) out L[n]
      rw [List.take_succ_eq_append_getElem hl, List.map_append, List.sum_append]
      simp only [List.map_cons, List.map_nil, List.sum_cons, List.sum_nil]; omega
theorem merge_len (T : TO o) {L : List (List α)} {out : List α} (h : IsMerge o L out) (hs : ∀ l ∈ L, Srt o l) : out.length ≤ (L.map List.length).sum := by
  obtain ⟨out', h1, h2⟩ := merge_ex T L.length L (Nat.le_refl _) hs
  rw [List.take_length] at h1 h2
  rw [IsMerge.one T h h1]; exact h2
theorem merge2 (T : TO o) {a b out : List α} (h : IsMerge o [a, b] out) (ha : Srt o a) (hb : Srt o b) : out = two o a b := by
  have h1 : IsMerge o [a] a := by
    have := (merge_nil (o := o)).snoc T ha; rwa [two_nl] at this
  exact IsMerge.one T h (h1.snoc T hb)
theorem merge_one (T : TO o) {a out : List α} (h : IsMerge o [[], a, []] out) (ha : Srt o a) : out = a := by
  have h0 : IsMerge o [[]] [] := by
    have := (merge_nil (o := o)).snoc T (l := []) List.Pairwise.nil; rwa [two_nl] at this
  have h1 : IsMerge o [[], a] a := by
    have := h0.snoc T ha; rwa [two_nl] at this
  have h2 : IsMerge o [[], a, []] a := by
    have := h1.snoc T (l := []) List.Pairwise.nil; rwa [two_nr] at this
  exact IsMerge.one T h h2
/-- Where nothing was left out, nothing is the same. -/
theorem two_all (T : TO o) : ∀ (a b : List α), Srt o a → Srt o b → a.length + b.length ≤ (two o a b).length → ∀ r ∈ b, ∀ r' ∈ a, o r' r ≠ 0
  | [], b, _, _, _ => by simp
  | x :: a, [], _, _, _ => by simp
  | x :: a, y :: b, ha, hb, h => by
    have ha' := List.pairwise_cons.1 ha
    have hb' := List.pairwise_cons.1 hb
    rw [two] at h
    by_cases h1 : o x y < 0
    · rw [if_pos h1] at h
      have ih := two_all T a (y :: b) ha'.2 hb (by simp only [List.length_cons] at h ⊢; omega)
      intro r hr r' hr'
      rcases List.mem_cons.1 hr' with e | hr'
      · rw [e]
        rcases List.mem_cons.1 hr with e2 | hr
        · rw [e2]; omega
        · have := T.trans _ _ _ h1 (hb'.1 r hr); omega
      · exact ih r hr r' hr'
    · rw [if_neg h1] at h
      by_cases h2 : o y x < 0
      · rw [if_pos h2] at h
        have ih := two_all T (x :: a) b ha hb'.2 (by simp only [List.length_cons] at h ⊢; omega)
        intro r hr r' hr'
        rcases List.mem_cons.1 hr with e | hr
        · rw [e]
          intro e0
          have e1 := T.symm e0
          rcases List.mem_cons.1 hr' with e2 | hr'
          · rw [e2] at e1; omega
          · have := T.trans _ _ _ h2 (ha'.1 r' hr'); omega
        · exact ih r hr r' hr'
      · rw [if_neg h2] at h
        have := twoG_len (o := o) a b
        simp only [List.length_cons] at h; omega
termination_by a b => a.length + b.length
theorem two_swap (T : TO o) {a b : List α} (ha : Srt o a) (hb : Srt o b) (h : ∀ r ∈ b, ∀ r' ∈ a, o r' r ≠ 0) : two o a b = two o b a := by
  obtain ⟨s1, m1⟩ := two_mem T a b ha hb
  obtain ⟨s2, m2⟩ := two_mem T b a hb ha
  refine T.ext s1 s2 fun r => ?_
  rw [m1, m2]
  constructor
  · rintro (h1 | ⟨h1, _⟩)
    · exact .inr ⟨h1, fun r' hr' e => h r' hr' r h1 (T.symm e)⟩
    · exact .inl h1
  · rintro (h1 | ⟨h1, _⟩)
    · exact .inr ⟨h1, fun r' hr' => h r h1 r' hr'⟩
    · exact .inl h1
end
/-- A record without what does not order it. -/
def rc0 (r : Rc) : Rc := ⟨r.key, r.seq, false, []⟩
theorem ord_rc0 (a b : Rc) : ord2 (rc0 a) (rc0 b) = ord2 a b := rfl
theorem srt_rc0 {l : List Rc} (h : Srt ord2 l) : Srt ord2 (l.map rc0) := List.pairwise_map.2 (h.imp fun h => h)
theorem mem_rc0 {a b : List Rc} (ha : Srt ord2 a) (hb : Srt ord2 b) (x : Rc) : x ∈ (two ord2 a b).map rc0 ↔ x ∈ a.map rc0 ∨ x ∈ b.map rc0 := by
  obtain ⟨s1, m1⟩ := two_mem toOrd a b ha hb
  simp only [List.mem_map]
  constructor
  · rintro ⟨r, h1, h2⟩
    rcases (m1 r).1 h1 with h | ⟨h, _⟩
    · exact .inl ⟨r, h, h2⟩
    · exact .inr ⟨r, h, h2⟩
  · rintro (⟨r, h1, h2⟩ | ⟨r, h1, h2⟩)
    · exact ⟨r, (m1 r).2 (.inl h1), h2⟩
    · by_cases hx : ∃ r' ∈ a, ord2 r' r = 0
      · obtain ⟨r', g1, g2⟩ := hx
        obtain ⟨g3, g4⟩ := (ord_eq r' r).1 g2
        exact ⟨r', (m1 r').2 (.inl g1), by rw [← h2]; unfold rc0; rw [g3, g4]⟩
      · exact ⟨r, (m1 r).2 (.inr ⟨h1, fun r' hr' e => hx ⟨r', hr', e⟩⟩), h2⟩
theorem two_len_swap {a b : List Rc} (ha : Srt ord2 a) (hb : Srt ord2 b) : (two ord2 a b).length = (two ord2 b a).length := by
  have : (two ord2 a b).map rc0 = (two ord2 b a).map rc0 := by
    refine toOrd.ext (srt_rc0 (two_mem toOrd a b ha hb).1) (srt_rc0 (two_mem toOrd b a hb ha).1) fun x => ?_
    rw [mem_rc0 ha hb, mem_rc0 hb ha]; exact Or.comm
  simpa using congrArg List.length this
/-- Where no record of one list stands in the other one. -/
theorem two_apart {a b : List Rc} (ha : Srt ord2 a) (hb : Srt ord2 b) (h : ∀ r ∈ b, ∀ r' ∈ a, ord2 r' r ≠ 0) : Srt ord2 (two ord2 a b) ∧ ∀ r, r ∈ two ord2 a b ↔ r ∈ a ∨ r ∈ b := by
  obtain ⟨s1, m1⟩ := two_mem toOrd a b ha hb
  refine ⟨s1, fun r => (m1 r).trans ⟨?_, ?_⟩⟩
  · rintro (h1 | ⟨h1, _⟩); exact .inl h1; exact .inr h1
  · rintro (h1 | h1); exact .inl h1; exact .inr ⟨h1, fun r' hr' => h r h1 r' hr'⟩
end Go.Proofs.Ytfcemlcocdhmfaa
