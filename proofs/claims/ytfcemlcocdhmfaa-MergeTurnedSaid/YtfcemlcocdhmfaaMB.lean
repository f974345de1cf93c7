/- Which records are kept, in plain words. -/
import Derived.Test.YtfcemlcocdhmfaaMA
namespace Go.Proofs.Ytfcemlcocdhmfaa
set_option linter.unusedVariables false
set_option linter.unusedSimpArgs false

def seenS (ms : List Int) (p : Option Rc) (r : Rc) : Bool := match p with
  | none => true
  | some a => !decide (a.key = r.key) || ms.any fun m => decide (r.seq ≤ m) && decide (m < a.seq)
def keptS (ms : List Int) : Option Rc → List Rc → List Rc
  | _, [] => []
  | p, r :: rs => (if seenS ms p r = true then [r] else []) ++ keptS ms (some r) rs
def isLast (o : List Rc) (r : Rc) : Bool := match o with
  | [] => true
  | x :: _ => !decide (x.key = r.key)
def dropS (bottom : Bool) : List Rc → List Rc
  | [] => []
  | r :: rs => if (bottom && r.del && isLast (dropS bottom rs) r) = true then dropS bottom rs else r :: dropS bottom rs
def keepS (ms : List Int) (bottom : Bool) (l : List Rc) : List Rc := dropS bottom (keptS ms none l)
theorem kept_sub (ms : List Int) : ∀ (L : List Rc) (p : Option Rc), (keptS ms p L).Sublist L
  | [], p => List.Sublist.refl _
  | a :: L, p => by
    rw [keptS]
    split
    · exact (kept_sub ms L (some a)).cons_cons a
    · exact (kept_sub ms L (some a)).cons a
theorem drop_sub (b : Bool) : ∀ (L : List Rc), (dropS b L).Sublist L
  | [] => List.Sublist.refl _
  | a :: L => by
    rw [dropS]
    split
    · exact (drop_sub b L).cons a
    · exact (drop_sub b L).cons_cons a
theorem keep_sub (ms : List Int) (b : Bool) (L : List Rc) : (keepS ms b L).Sublist L := (drop_sub b _).trans (kept_sub ms L none)
theorem drop_no : ∀ (L : List Rc), dropS false L = L
  | [] => rfl
  | a :: L => by rw [dropS]; simp [drop_no L]
/-- A record that is needed. -/
def SeenIn (ms : List Int) (L : List Rc) (r : Rc) : Prop :=
  (∀ x ∈ L, x.key = r.key → x.seq ≤ r.seq) ∨ ∃ m ∈ ms, r.seq ≤ m ∧ ∀ x ∈ L, x.key = r.key → r.seq < x.seq → m < x.seq
theorem SeenIn.sub {ms : List Int} {L M : List Rc} {r : Rc} (h : SeenIn ms L r) (hs : ∀ x ∈ M, x ∈ L) : SeenIn ms M r := by
  rcases h with h | ⟨m, h1, h2, h3⟩
  · exact .inl fun x hx => h x (hs x hx)
  · exact .inr ⟨m, h1, h2, fun x hx => h3 x (hs x hx)⟩
theorem same_key {a b c : Rc} (h1 : ord2 a b < 0) (h2 : ord2 b c < 0) (h : a.key = c.key) : b.key = c.key := by
  have g1 := key_le h1; have g2 := key_le h2
  rw [h] at g1
  exact (cb_anti g1 g2).symm
theorem seq_lt {a b : Rc} (h : ord2 a b < 0) (e : a.key = b.key) : b.seq < a.seq := by
  rcases (ord_lt a b).1 h with h | ⟨_, h⟩
  · exact absurd e (cb_ne h)
  · exact h
theorem kept_mem (ms : List Int) : ∀ (L : List Rc) (p : Option Rc), Srt ord2 (p.toList ++ L) → ∀ r, r ∈ keptS ms p L ↔ r ∈ L ∧ SeenIn ms (p.toList ++ L) r
  | [], p, _, r => by simp [keptS]
  | a :: L, p, hs, r => by
    have hs' : Srt ord2 (a :: L) := by
      cases p with
      | none => exact hs
      | some q => exact List.Pairwise.of_cons hs
    have hh := srt_head hs'
    have hpa : ∀ q, p = some q → ord2 q a < 0 := fun q e => by subst e; exact srt_head hs a List.mem_cons_self
    have hpL : ∀ q, p = some q → ∀ x ∈ L, ord2 q x < 0 := fun q e x hx => by subst e; exact srt_head hs x (List.mem_cons_of_mem _ hx)
    have ha : seenS ms p a = true ↔ SeenIn ms (p.toList ++ a :: L) a := by
      have hl : ∀ x ∈ a :: L, x.key = a.key → x.seq ≤ a.seq := fun x hx hk => by
        rcases List.mem_cons.1 hx with e | hx
        · rw [e]; exact Int.le_refl _
        · have := seq_lt (hh x hx) hk.symm; omega
      cases p with
      | none => exact ⟨fun _ => .inl hl, fun _ => rfl⟩
      | some q =>
        have hq := hpa q rfl
        by_cases e : q.key = a.key
        · have hqs := seq_lt hq e
          have : seenS ms (some q) a = true ↔ ∃ m ∈ ms, a.seq ≤ m ∧ m < q.seq := by simp [seenS, e]
          rw [this]
          constructor
          · rintro ⟨m, h1, h2, h3⟩
            refine .inr ⟨m, h1, h2, fun x hx hk hlt => ?_⟩
            rcases List.mem_cons.1 (show x ∈ q :: (a :: L) from hx) with e' | hx
            · rw [e']; exact h3
            · have := hl x hx hk; omega
          · rintro (h | ⟨m, h1, h2, h3⟩)
            · have := h q List.mem_cons_self e; omega
            · exact ⟨m, h1, h2, h3 q List.mem_cons_self e hqs⟩
        · have : seenS ms (some q) a = true := by simp [seenS, e]
          rw [this]
          refine ⟨fun _ => .inl fun x hx hk => ?_, fun _ => rfl⟩
          rcases List.mem_cons.1 (show x ∈ q :: (a :: L) from hx) with e' | hx
          · rw [e'] at hk; exact absurd hk e
          · exact hl x hx hk
    have hr : ∀ r ∈ L, SeenIn ms (a :: L) r ↔ SeenIn ms (p.toList ++ a :: L) r := fun r hrL => by
      refine ⟨fun h => ?_, fun h => h.sub fun x hx => List.mem_append_right _ hx⟩
      cases p with
      | none => exact h
      | some q =>
        by_cases e : q.key = r.key
        · have e1 := same_key (hpa q rfl) (hh r hrL) e
          have l1 := seq_lt (hh r hrL) e1
          have l2 := seq_lt (hpa q rfl) (e.trans e1.symm)
          rcases h with h | ⟨m, h1, h2, h3⟩
          · have := h a List.mem_cons_self e1; omega
          · refine .inr ⟨m, h1, h2, fun x hx hk hlt => ?_⟩
            rcases List.mem_cons.1 (show x ∈ q :: (a :: L) from hx) with e' | hx
            · rw [e']; have := h3 a List.mem_cons_self e1 l1; omega
            · exact h3 x hx hk hlt
        · rcases h with h | ⟨m, h1, h2, h3⟩
          · refine .inl fun x hx hk => ?_
            rcases List.mem_cons.1 (show x ∈ q :: (a :: L) from hx) with e' | hx
            · rw [e'] at hk; exact absurd hk e
            · exact h x hx hk
          · refine .inr ⟨m, h1, h2, fun x hx hk hlt => ?_⟩
            rcases List.mem_cons.1 (show x ∈ q :: (a :: L) from hx) with e' | hx
            · rw [e'] at hk; exact absurd hk e
            · exact h3 x hx hk hlt
    have ih := kept_mem ms L (some a) hs' r
    rw [keptS, List.mem_append, ih]
    have hne : r ∈ L → r ≠ a := fun h e => by have h1 := hh r h; rw [e, toOrd.refl] at h1; omega
    constructor
    · rintro (h | ⟨h1, h2⟩)
      · by_cases hx : seenS ms p a = true
        · rw [if_pos hx] at h
          rw [List.mem_singleton.1 h]
          exact ⟨List.mem_cons_self, ha.1 hx⟩
        · rw [if_neg hx] at h; simp at h
      · exact ⟨List.mem_cons_of_mem _ h1, (hr r h1).1 h2⟩
    · rintro ⟨h1, h2⟩
      rcases List.mem_cons.1 h1 with e | h1
      · left; subst e; rw [if_pos (ha.2 h2)]; simp
      · exact .inr ⟨h1, (hr r h1).2 h2⟩
theorem isLast_iff {o : List Rc} {r : Rc} (hs : Srt ord2 (r :: o)) : isLast o r = true ↔ ∀ x ∈ o, x.key ≠ r.key := by
  cases o with
  | nil => simp [isLast]
  | cons a o =>
    have h1 := srt_head hs a List.mem_cons_self
    simp only [isLast, Bool.not_eq_true', decide_eq_false_iff_not]
    refine ⟨fun h x hx e => ?_, fun h => h a List.mem_cons_self⟩
    rcases List.mem_cons.1 hx with e' | hx
    · rw [e'] at e; exact h e
    · have h2 := srt_head hs.of_cons x hx
      exact h ((same_key h1 h2 e.symm).trans e)
theorem drop_mem (b : Bool) : ∀ (L : List Rc), Srt ord2 L → ∀ r, r ∈ dropS b L ↔ r ∈ L ∧ (b = false ∨ ∃ x ∈ L, x.key = r.key ∧ x.seq ≤ r.seq ∧ x.del = false)
  | [], _, r => by simp [dropS]
  | a :: L, hs, r => by
    have hh := srt_head hs
    have ih := drop_mem b L hs.of_cons
    have hsd : Srt ord2 (a :: dropS b L) := hs.sublist ((drop_sub b L).cons_cons a)
    have hl := isLast_iff hsd
    have hne : r ∈ L → r ≠ a := fun h e => by have h1 := hh r h; rw [e, toOrd.refl] at h1; omega
    have hL : ∀ r ∈ L, (∃ x ∈ L, x.key = r.key ∧ x.seq ≤ r.seq ∧ x.del = false) ↔ ∃ x ∈ a :: L, x.key = r.key ∧ x.seq ≤ r.seq ∧ x.del = false := fun r hr => by
      constructor
      · rintro ⟨x, h1, h2⟩; exact ⟨x, List.mem_cons_of_mem _ h1, h2⟩
      · rintro ⟨x, h1, h2, h3, h4⟩
        rcases List.mem_cons.1 h1 with e | h1
        · subst e; have := seq_lt (hh r hr) h2; omega
        · exact ⟨x, h1, h2, h3, h4⟩
    rw [dropS]
    by_cases hc : (b && a.del && isLast (dropS b L) a) = true
    · rw [if_pos hc, ih r]
      simp only [Bool.and_eq_true] at hc
      obtain ⟨⟨hb, hd⟩, hla⟩ := hc
      have hno := hl.1 hla
      constructor
      · rintro ⟨h1, h2⟩
        refine ⟨List.mem_cons_of_mem _ h1, ?_⟩
        rcases h2 with h2 | h2
        · exact .inl h2
        · exact .inr ((hL r h1).1 h2)
      · rintro ⟨h1, h2⟩
        rcases h2 with h2 | ⟨x, h2, h3, h4, h5⟩
        · rw [hb] at h2; exact absurd h2 (by decide)
        · rcases List.mem_cons.1 h1 with e | h1
          · subst e
            rcases List.mem_cons.1 h2 with e | h2
            · subst e; rw [hd] at h5; exact absurd h5 (by decide)
            · exact absurd h3 (hno x ((ih x).2 ⟨h2, .inr ⟨x, h2, rfl, Int.le_refl _, h5⟩⟩))
          · exact ⟨h1, .inr ((hL r h1).2 ⟨x, h2, h3, h4, h5⟩)⟩
    · rw [if_neg hc, List.mem_cons, ih r]
      constructor
      · rintro (e | ⟨h1, h2⟩)
        · subst e
          refine ⟨List.mem_cons_self, ?_⟩
          cases hb : b with
          | false => exact .inl rfl
          | true =>
            right
            cases hd : r.del with
            | false => exact ⟨r, List.mem_cons_self, rfl, Int.le_refl _, hd⟩
            | true =>
              rw [hb, hd] at hc
              simp only [Bool.and_self, Bool.true_and] at hc
              rw [hb] at hl ih
              have : ¬ ∀ x ∈ dropS true L, x.key ≠ r.key := fun h => hc (hl.2 h)
              obtain ⟨x, hx⟩ := Classical.not_forall.1 this
              obtain ⟨hx, hk⟩ := Classical.not_imp.1 hx
              have hk := Classical.not_not.1 hk
              obtain ⟨h1, h2⟩ := (ih x).1 hx
              rcases h2 with h2 | ⟨y, g1, g2, g3, g4⟩
              · exact absurd h2 (by decide)
              · have := seq_lt (hh x h1) hk.symm
                exact ⟨y, List.mem_cons_of_mem _ g1, g2.trans hk, by omega, g4⟩
        · refine ⟨List.mem_cons_of_mem _ h1, ?_⟩
          rcases h2 with h2 | h2
          · exact .inl h2
          · exact .inr ((hL r h1).1 h2)
      · rintro ⟨h1, h2⟩
        rcases List.mem_cons.1 h1 with e | h1
        · exact .inl e
        · right
          refine ⟨h1, ?_⟩
          rcases h2 with h2 | h2
          · exact .inl h2
          · exact .inr ((hL r h1).2 h2)
theorem keep_srt (ms : List Int) (b : Bool) {L : List Rc} (h : Srt ord2 L) : Srt ord2 (keepS ms b L) := h.sublist (keep_sub ms b L)
theorem keep_mem (ms : List Int) (b : Bool) {L : List Rc} (h : Srt ord2 L) (r : Rc) : r ∈ keepS ms b L ↔ (r ∈ L ∧ SeenIn ms L r) ∧ (b = false ∨ ∃ x ∈ L, SeenIn ms L x ∧ x.key = r.key ∧ x.seq ≤ r.seq ∧ x.del = false) := by
  have hk : Srt ord2 (keptS ms none L) := h.sublist (kept_sub ms L none)
  have hm := kept_mem ms L none h
  unfold keepS
  rw [drop_mem b _ hk r, hm r]
  refine and_congr Iff.rfl (or_congr Iff.rfl ?_)
  constructor
  · rintro ⟨x, h1, h2⟩; exact ⟨x, ((hm x).1 h1).1, ((hm x).1 h1).2, h2⟩
  · rintro ⟨x, h1, h2, h3⟩; exact ⟨x, (hm x).2 ⟨h1, h2⟩, h3⟩
/-- What was kept is kept again. -/
theorem keep_again (ms : List Int) (b : Bool) {L : List Rc} (h : Srt ord2 L) : keepS ms b (keepS ms b L) = keepS ms b L := by
  have hk := keep_srt ms b h
  refine TO.ext toOrd (keep_srt ms b hk) hk fun r => ⟨fun hr => ((keep_mem ms b hk r).1 hr).1.1, fun hr => ?_⟩
  have hsub : ∀ x ∈ keepS ms b L, x ∈ L := fun x hx => ((keep_mem ms b h x).1 hx).1.1
  obtain ⟨⟨h1, h2⟩, h3⟩ := (keep_mem ms b h r).1 hr
  refine (keep_mem ms b hk r).2 ⟨⟨hr, h2.sub hsub⟩, ?_⟩
  rcases h3 with h3 | ⟨x, g1, g2, g3, g4, g5⟩
  · exact .inl h3
  · exact .inr ⟨x, (keep_mem ms b h x).2 ⟨⟨g1, g2⟩, .inr ⟨x, g1, g2, rfl, Int.le_refl _, g5⟩⟩, g2.sub hsub, g3, g4, g5⟩
/-- The newest one that is not behind a moment. -/
theorem vis_ex (m : Int) : ∀ (L : List Rc) (r : Rc), r ∈ L → r.seq ≤ m → ∃ x, Vis m L x ∧ x.key = r.key ∧ r.seq ≤ x.seq
  | [], r, h, _ => by simp at h
  | a :: L, r, h, hm => by
    have step : ∀ x, Vis m L x → x.key = r.key → r.seq ≤ x.seq → ∃ x, Vis m (a :: L) x ∧ x.key = r.key ∧ r.seq ≤ x.seq := fun x hx hk hl => by
      by_cases ha : a.key = x.key ∧ a.seq ≤ m ∧ x.seq < a.seq
      · refine ⟨a, ⟨List.mem_cons_self, ha.2.1, fun y hy hk' hm' => ?_⟩, ha.1.trans hk, by omega⟩
        rcases List.mem_cons.1 hy with e | hy
        · rw [e]; exact Int.le_refl _
        · have := hx.top y hy (hk'.trans ha.1) hm'; omega
      · refine ⟨x, ⟨List.mem_cons_of_mem _ hx.mem, hx.le, fun y hy hk' hm' => ?_⟩, hk, hl⟩
        rcases List.mem_cons.1 hy with e | hy
        · subst e
          by_cases h2 : y.seq ≤ x.seq
          · exact h2
          · exact absurd ⟨hk', hm', by omega⟩ ha
        · exact hx.top y hy hk' hm'
    by_cases hr : r ∈ L
    · obtain ⟨x, h1, h2, h3⟩ := vis_ex m L r hr hm
      exact step x h1 h2 h3
    · have e : r = a := by
        rcases List.mem_cons.1 h with e | h
        · exact e
        · exact absurd h hr
      subst e
      by_cases hx : ∃ y ∈ L, y.key = r.key ∧ y.seq ≤ m
      · obtain ⟨y, h1, h2, h3⟩ := hx
        obtain ⟨x, g1, g2, g3⟩ := vis_ex m L y h1 h3
        by_cases hl : r.seq ≤ x.seq
        · exact step x g1 (g2.trans h2) hl
        · refine ⟨r, ⟨List.mem_cons_self, hm, fun z hz hk hz' => ?_⟩, rfl, Int.le_refl _⟩
          rcases List.mem_cons.1 hz with e | hz
          · rw [e]; exact Int.le_refl _
          · have := g1.top z hz (hk.trans (g2.trans h2).symm) hz'; omega
      · refine ⟨r, ⟨List.mem_cons_self, hm, fun z hz hk hz' => ?_⟩, rfl, Int.le_refl _⟩
        rcases List.mem_cons.1 hz with e | hz
        · rw [e]; exact Int.le_refl _
        · exact absurd ⟨z, hz, hk, hz'⟩ hx
/-- Moments at which what is kept tells all. -/
def Good (ms : List Int) (L : List Rc) (m : Int) : Prop := m ∈ ms ∨ ∀ r ∈ L, r.seq ≤ m
theorem Good.seen {ms : List Int} {L : List Rc} {m : Int} (h : Good ms L m) {r : Rc} (hv : Vis m L r) : SeenIn ms L r := by
  rcases h with h | h
  · refine .inr ⟨m, h, hv.le, fun x hx hk hl => ?_⟩
    by_cases h1 : x.seq ≤ m
    · have := hv.top x hx hk h1; omega
    · omega
  · exact .inl fun x hx hk => hv.top x hx hk (h x hx)
/-- What is kept tells at the moments what the whole list told. -/
theorem same_at {ms : List Int} {b : Bool} {L : List Rc} (hs : Srt ord2 L) {m : Int} (hg : Good ms L m) : atS m none (keepS ms b L) = atS m none L := by
  refine atS_ext (keep_srt ms b hs) hs fun k v => ?_
  have hm := keep_mem ms b hs
  constructor
  · rintro ⟨r, h1, h2, h3, h4⟩
    have hr := (hm r).1 h1.mem
    refine ⟨r, ⟨hr.1.1, h1.le, fun x hx hk hxm => ?_⟩, h2, h3, h4⟩
    obtain ⟨y, g1, g2, g3⟩ := vis_ex m L x hx hxm
    have hy := hg.seen g1
    have hl := g1.top r hr.1.1 (hk.symm.trans g2.symm) h1.le
    by_cases e : y.seq ≤ r.seq
    · omega
    · have hyk : y ∈ keepS ms b L := (hm y).2 ⟨⟨g1.mem, hy⟩, .inr ⟨r, hr.1.1, hr.1.2, by rw [g2, hk], hl, h2⟩⟩
      have := h1.top y hyk (g2.trans hk) g1.le
      omega
  · rintro ⟨r, h1, h2, h3, h4⟩
    exact ⟨r, ⟨(hm r).2 ⟨⟨h1.mem, hg.seen h1⟩, .inr ⟨r, h1.mem, hg.seen h1, rfl, Int.le_refl _, h2⟩⟩, h1.le, fun x hx => h1.top x ((hm x).1 hx).1.1⟩, h2, h3, h4⟩
/-- Together with older records, too. -/
theorem below_at {ms : List Int} {L old X Y : List Rc} (hs : Srt ord2 L) (hX : Srt ord2 X) (hY : Srt ord2 Y) (mX : ∀ r, r ∈ X ↔ r ∈ keepS ms false L ∨ r ∈ old) (mY : ∀ r, r ∈ Y ↔ r ∈ L ∨ r ∈ old)
    (hold : ∀ r ∈ L, ∀ o ∈ old, r.key = o.key → o.seq < r.seq) {m : Int} (hg : Good ms L m) : atS m none X = atS m none Y := by
  have hm := keep_mem ms false hs
  have hkL : ∀ r, r ∈ keepS ms false L ↔ r ∈ L ∧ SeenIn ms L r := fun r => by rw [hm r]; simp
  have hsub : ∀ x ∈ X, x ∈ Y := fun x hx => by
    rcases (mX x).1 hx with h | h
    · exact (mY x).2 (.inl ((hkL x).1 h).1)
    · exact (mY x).2 (.inr h)
  have key : ∀ r ∈ X, ∀ x ∈ Y, x.key = r.key → x.seq ≤ m → ∃ y ∈ X, y.key = r.key ∧ y.seq ≤ m ∧ x.seq ≤ y.seq := fun r hr x hx hk hxm => by
    rcases (mY x).1 hx with h | h
    · obtain ⟨y, g1, g2, g3⟩ := vis_ex m L x h hxm
      exact ⟨y, (mX y).2 (.inl ((hkL y).2 ⟨g1.mem, hg.seen g1⟩)), g2.trans hk, g1.le, g3⟩
    · exact ⟨x, (mX x).2 (.inr h), hk, hxm, Int.le_refl _⟩
  have vis : ∀ r, Vis m X r ↔ Vis m Y r := fun r => by
    constructor
    · intro h
      refine ⟨hsub r h.mem, h.le, fun x hx hk hxm => ?_⟩
      obtain ⟨y, g1, g2, g3, g4⟩ := key r h.mem x hx hk hxm
      have := h.top y g1 g2 g3; omega
    · intro h
      refine ⟨?_, h.le, fun x hx => h.top x (hsub x hx)⟩
      rcases (mY r).1 h.mem with h1 | h1
      · have hv : Vis m L r := ⟨h1, h.le, fun x hx => h.top x ((mY x).2 (.inl hx))⟩
        exact (mX r).2 (.inl ((hkL r).2 ⟨h1, hg.seen hv⟩))
      · exact (mX r).2 (.inr h1)
  exact atS_ext hX hY fun k v => ⟨fun ⟨r, h1, h2⟩ => ⟨r, (vis r).1 h1, h2⟩, fun ⟨r, h1, h2⟩ => ⟨r, (vis r).2 h1, h2⟩⟩
end Go.Proofs.Ytfcemlcocdhmfaa
