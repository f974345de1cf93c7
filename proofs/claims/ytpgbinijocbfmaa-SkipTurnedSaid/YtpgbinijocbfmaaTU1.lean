/- Two lists in memory, side by side. -/
import Derived.Test.YtpgbinijocbfmaaP14
namespace Go.Proofs.Ytpgbinijocbfmaa
open Go.RowKit Go
set_option linter.unusedVariables false
set_option linter.unusedSimpArgs false

theorem ahd_irr (a : Rc) : ¬ ahd a a := by
  unfold ahd; rw [ordS_lt]
  rintro (h | ⟨_, h⟩)
  · rw [compare_refl] at h; omega
  · omega
theorem ahd_no {a b : Rc} (h1 : ahd a b) (h2 : ahd b a) : False := ahd_irr a (ahd_trans h1 h2)
/-- Sorted lists of the same records are the same. -/
theorem sorted_ext : ∀ {l m : List Rc}, Sorted l → Sorted m → (∀ x, x ∈ l ↔ x ∈ m) → l = m
  | [], [], _, _, _ => rfl
  | [], b :: m, _, _, h => absurd ((h b).2 List.mem_cons_self) (by simp)
  | a :: l, [], _, _, h => absurd ((h a).1 List.mem_cons_self) (by simp)
  | a :: l, b :: m, hl, hm, h => by
    have hl' := List.pairwise_cons.1 hl
    have hm' := List.pairwise_cons.1 hm
    have e : a = b := by
      rcases List.mem_cons.1 ((h a).1 List.mem_cons_self) with e | h1
      · exact e
      · rcases List.mem_cons.1 ((h b).2 List.mem_cons_self) with e | h2
        · exact e.symm
        · exact (ahd_no (hm'.1 a h1) (hl'.1 b h2)).elim
    subst e
    rw [sorted_ext hl'.2 hm'.2 fun x => ?_]
    constructor
    · intro hx
      rcases List.mem_cons.1 ((h x).1 (List.mem_cons_of_mem _ hx)) with e | h1
      · exact absurd (hl'.1 x hx) (by rw [e]; exact ahd_irr a)
      · exact h1
    · intro hx
      rcases List.mem_cons.1 ((h x).2 (List.mem_cons_of_mem _ hx)) with e | h1
      · exact absurd (hm'.1 x hx) (by rw [e]; exact ahd_irr a)
      · exact h1
abbrev rightR (r : Rc) : Prop := rightN r.key.length r.seq r.del r.val.length = true
/-- Put: who is there then, where no such record was. -/
theorem putS_mem {rs rs' : List Rc} {high high' : Nat} {r : Rc} {draw c : Int} (h : putS rs high r draw = (c, rs', high')) (hne : ∀ x ∈ rs, ¬ ordS x r.key r.seq = 0) : (c = 0 ∨ c = 1) ∧ ∀ x, x ∈ rs' ↔ x ∈ rs ∨ (x = r ∧ rightR r) := by
  unfold putS at h
  by_cases h1 : rightN r.key.length r.seq r.del r.val.length = true
  · rw [if_pos h1] at h
    split at h
    · rename_i hx
      exfalso
      cases hd : rs.dropWhile (fun x => decide (ordS x r.key r.seq < 0)) with
      | nil => rw [hd] at hx; simp at hx
      | cons y ys =>
        rw [hd] at hx
        have hy : y ∈ rs := (List.dropWhile_suffix _).subset (by rw [hd]; exact List.mem_cons_self)
        exact hne y hy (by simpa using hx)
    · injection h with h2 h3; injection h3 with h3 h4; subst h2 h3 h4
      refine ⟨.inl rfl, fun x => ?_⟩
      have e := List.takeWhile_append_dropWhile (p := fun x => decide (ordS x r.key r.seq < 0)) (l := rs)
      have hm : x ∈ rs ↔ x ∈ rs.takeWhile (fun x => decide (ordS x r.key r.seq < 0)) ∨ x ∈ rs.dropWhile (fun x => decide (ordS x r.key r.seq < 0)) := by
        rw [← List.mem_append, e]
      rw [List.mem_append, List.mem_cons, hm]
      constructor
      · rintro (h | h | h)
        · exact .inl (.inl h)
        · exact .inr ⟨h, h1⟩
        · exact .inl (.inr h)
      · rintro ((h | h) | ⟨h, _⟩)
        · exact .inl h
        · exact .inr (.inr h)
        · exact .inr (.inl h)
  · rw [if_neg h1] at h
    injection h with h2 h3; injection h3 with h3 h4; subst h2 h3 h4
    exact ⟨.inr rfl, fun x => ⟨.inl, fun h => h.elim id fun h => absurd h.2 h1⟩⟩

/-- Two lists, apart from each other and from the blocks lo .. hi. -/
structure Two (w : World) (lo hi : Nat) (wr : World) (L1 : Nd) (rs1 : List Rc) (h1 : Nat) (L2 : Nd) (rs2 : List Rc) (h2 : Nat) : Prop where
  ex : ∃ (U1 U2 : Nat → Prop) (ns1 ns2 : List Nd), Sk wr U1 L1 ns1 h1 ∧ Sk wr U2 L2 ns2 h2 ∧ ns1.map Nd.r = rs1 ∧ ns2.map Nd.r = rs2 ∧ (∀ b, U1 b → ¬ U2 b) ∧ (∀ b, U1 b ∨ U2 b → w.heap.size ≤ b ∧ ¬ (lo ≤ b ∧ b < hi))
  r1 : AllRight rs1
  r2 : AllRight rs2
  hh1 : h1 ≤ 12
  hh2 : h2 ≤ 12
  below : Below w.heap.size w wr
  top : hi ≤ wr.heap.size
theorem Two.symm {w wr : World} {lo hi h1 h2 : Nat} {L1 L2 : Nd} {rs1 rs2 : List Rc} (h : Two w lo hi wr L1 rs1 h1 L2 rs2 h2) : Two w lo hi wr L2 rs2 h2 L1 rs1 h1 := by
  obtain ⟨⟨U1, U2, ns1, ns2, a1, a2, a3, a4, a5, a6⟩, b1, b2, b3, b4, b5, b6⟩ := h
  exact ⟨⟨U2, U1, ns2, ns1, a2, a1, a4, a3, fun b h2 h1 => a5 b h1 h2, fun b hb => a6 b hb.symm⟩, b2, b1, b4, b3, b5, b6⟩
theorem Two.up {w wr w' : World} {lo hi h1 h2 : Nat} {L1 L2 : Nd} {rs1 rs2 : List Rc} (h : Two w lo hi wr L1 rs1 h1 L2 rs2 h2) (hb : Below wr.heap.size wr w') : Two w lo hi w' L1 rs1 h1 L2 rs2 h2 := by
  obtain ⟨⟨U1, U2, ns1, ns2, a1, a2, a3⟩, b1, b2, b3, b4, b5, b6⟩ := h
  exact ⟨⟨U1, U2, ns1, ns2, a1.below hb, a2.below hb, a3⟩, b1, b2, b3, b4, b5.trans (hb.mono b5.size), Nat.le_trans b6 hb.size⟩
theorem Two.sorted {w wr : World} {lo hi h1 h2 : Nat} {L1 L2 : Nd} {rs1 rs2 : List Rc} (h : Two w lo hi wr L1 rs1 h1 L2 rs2 h2) : Sorted rs1 ∧ Sorted rs2 := by
  obtain ⟨⟨U1, U2, ns1, ns2, a1, a2, rfl, rfl, _⟩, _⟩ := h
  exact ⟨a1.sorted, a2.sorted⟩
/-- Two new lists. -/
theorem Two.start {w w1 w2 : World} {L1 L2 : Nd} {lo hi : Nat} (s1 : Sk w1 (New w.heap.size w1) L1 [] 0) (hb1 : Below w.heap.size w w1) (s2 : Sk w2 (New w1.heap.size w2) L2 [] 0) (hb2 : Below w1.heap.size w1 w2) (hlo : w2.heap.size ≤ lo) (hhi : hi ≤ w2.heap.size) : Two w lo hi w2 L1 [] 0 L2 [] 0 :=
  ⟨⟨New w.heap.size w1, New w1.heap.size w2, [], [], s1.below hb2, s2, rfl, rfl, fun b h1 h2 => by have := h1.2; have := h2.1; omega, fun b hb => by
    have := hb1.size; have := hb2.size
    rcases hb with h | h
    · exact ⟨h.1, by have := h.2; omega⟩
    · exact ⟨Nat.le_trans hb1.size h.1, by have := h.2; omega⟩⟩, by intro r hr; simp at hr, by intro r hr; simp at hr, by omega, by omega, hb1.trans (hb2.mono hb1.size), hhi⟩
/-- The blocks that were made since are to be let alone. -/
theorem Two.apart {w wr w' : World} {lo hi h1 h2 : Nat} {L1 L2 : Nd} {rs1 rs2 : List Rc} (h : Two w lo hi wr L1 rs1 h1 L2 rs2 h2) (hb : Below wr.heap.size wr w') : Two w wr.heap.size w'.heap.size w' L1 rs1 h1 L2 rs2 h2 := by
  obtain ⟨⟨U1, U2, ns1, ns2, a1, a2, a3, a4, a5, a6⟩, b1, b2, b3, b4, b5, b6⟩ := h
  exact ⟨⟨U1, U2, ns1, ns2, a1.below hb, a2.below hb, a3, a4, a5, fun b hb' => ⟨(a6 b hb').1, fun h' => by
    rcases hb' with h | h
    · have := a1.lt b h; omega
    · have := a2.lt b h; omega⟩⟩, b1, b2, b3, b4, b5.trans (hb.mono b5.size), Nat.le_refl _⟩
theorem two_put {w wr : World} {lo hi h1 h2 : Nat} {L1 L2 : Nd} {rs1 rs2 : List Rc} (h : Two w lo hi wr L1 rs1 h1 L2 rs2 h2) (hn : rs1.length ≤ 1000000) (kv vv : Value) (r : Rc) (draw : Int) (hk : Bs wr wr.heap.size kv r.key) (hv : Bs wr wr.heap.size vv r.val) (hd : -9223372036854775808 ≤ draw ∧ draw ≤ 9223372036854775807) :
    Calls Try.prog 10 #[ptr L1.g, .agg #[kv, .int .i64 r.seq, .bool r.del, vv], .int .i64 draw] wr fun e w' => ∃ c rs1' h1', e = .returned (.int .i64 c) ∧ putS rs1 h1 r draw = (c, rs1', h1') ∧ Two w lo hi w' L1 rs1' h1' L2 rs2 h2 ∧ (∀ b, lo ≤ b → b < hi → w'.heap[b]? = wr.heap[b]?) := by
  obtain ⟨⟨U1, U2, ns1, ns2, a1, a2, rfl, a4, a5, a6⟩, b1, b2, b3, b4, b5, b6⟩ := h
  have hsz := size_right _ b1
  simp only [List.length_map] at hn hsz
  refine (put_any U1 L1 ns1 h1 kv vv r draw wr a1 hk hv hd (by omega) (by omega) b3).mono ?_
  rintro e w' ⟨c, ns', high', rfl, hp, hs, hc⟩
  obtain ⟨i1, i2, i3, _⟩ := putS_inv hp b1 b3
  refine ⟨c, ns'.map Nd.r, high', rfl, hp, ⟨⟨fun b => U1 b ∨ New wr.heap.size w' b, U2, ns', ns2, hs, a2.keep hc.size (fun b hU => hc.block b (a2.lt b hU) (fun h1 => a5 b h1 hU)), rfl, a4, ?_, ?_⟩, i1, b2, i3, b4, hc.to_below b5 (fun b hb => (a6 b (.inl hb)).1) (Nat.le_refl _), Nat.le_trans b6 hc.size⟩, fun b hb1 hb2 => hc.block b (by omega) (fun hU => (a6 b (.inl hU)).2 ⟨hb1, hb2⟩)⟩
  · rintro b (hb | hb) hb2
    · exact a5 b hb hb2
    · have := a2.lt b hb2; have := hb.1; omega
  · rintro b ((hb | hb) | hb)
    · exact a6 b (.inl hb)
    · exact ⟨Nat.le_trans b5.size hb.1, by have := hb.1; omega⟩
    · exact a6 b (.inr hb)
theorem two_get {w wr : World} {lo hi h1 h2 : Nat} {L1 L2 : Nd} {rs1 rs2 : List Rc} (h : Two w lo hi wr L1 rs1 h1 L2 rs2 h2) (key : List UInt8) (seq : Int) (u : Value) (hu : Bs wr wr.heap.size u key) :
    Calls Try.prog 18 #[ptr L1.g, u, .int .i64 seq] wr fun e w' => ∃ v, e = .returned (.tuple #[v, .bool (getS rs1 key seq).isSome]) ∧ ToldRc wr.heap.size w' v ((getS rs1 key seq).getD zeroRc) ∧ Below wr.heap.size wr w' := by
  obtain ⟨⟨U1, U2, ns1, ns2, a1, a2, rfl, a4, a5, a6⟩, b1, _⟩ := h
  exact get_any U1 L1 ns1 h1 key seq u wr a1 hu (fun n hn => by have := right_bounds (b1 n.r (List.mem_map_of_mem hn)); omega)
theorem two_from {w wr : World} {lo hi h1 h2 : Nat} {L1 L2 : Nd} {rs1 rs2 : List Rc} (h : Two w lo hi wr L1 rs1 h1 L2 rs2 h2) (hn : rs1.length ≤ 1000000) (key : List UInt8) (most : Int) (u : Value) (hu : Bs wr wr.heap.size u key) (hm : -9223372036854775808 ≤ most ∧ most ≤ 9223372036854775807) :
    Calls Try.prog 17 #[ptr L1.g, u, .int .i64 most] wr fun e w' => ∃ v, e = .returned v ∧ Told wr w' v (fromS rs1 key most) := by
  obtain ⟨⟨U1, U2, ns1, ns2, a1, a2, rfl, a4, a5, a6⟩, b1, _⟩ := h
  rw [List.length_map] at hn
  exact from_any U1 L1 ns1 h1 key most u wr a1 hu (fun n hn => by have := right_bounds (b1 n.r (List.mem_map_of_mem hn)); omega) (by omega) hm
theorem two_len {w wr : World} {lo hi h1 h2 : Nat} {L1 L2 : Nd} {rs1 rs2 : List Rc} (h : Two w lo hi wr L1 rs1 h1 L2 rs2 h2) : Calls Try.prog 12 #[ptr L1.g] wr fun e w' => e = .returned (.int .i64 (rs1.length : Nat)) ∧ w' = wr := by
  obtain ⟨⟨U1, U2, ns1, ns2, a1, a2, rfl, _⟩, _⟩ := h
  rw [List.length_map]; exact len_any U1 L1 ns1 h1 wr a1
theorem two_size {w wr : World} {lo hi h1 h2 : Nat} {L1 L2 : Nd} {rs1 rs2 : List Rc} (h : Two w lo hi wr L1 rs1 h1 L2 rs2 h2) : Calls Try.prog 13 #[ptr L1.g] wr fun e w' => e = .returned (.int .i64 (sizeS rs1 : Nat)) ∧ w' = wr := by
  obtain ⟨⟨U1, U2, ns1, ns2, a1, a2, rfl, _⟩, _⟩ := h
  exact size_any U1 L1 ns1 h1 wr a1
/-- The items, each with its own moment. -/
def onc (its : List It) : List It := its.mapIdx fun i x => ⟨x.kv, x.vv, ⟨x.r.key, (i : Int) + 1, x.r.del, x.r.val⟩, x.draw⟩
theorem onc_len (its : List It) : (onc its).length = its.length := by simp [onc]
theorem onc_at (its : List It) {k : Nat} (h : k < its.length) : (onc its)[k]'(by rw [onc_len]; exact h) = ⟨its[k].kv, its[k].vv, ⟨its[k].r.key, (k : Int) + 1, its[k].r.del, its[k].r.val⟩, its[k].draw⟩ := by simp [onc]
theorem onc_seq {its : List It} {k : Nat} {x : It} (h : (onc its)[k]? = some x) : x.r.seq = (k : Int) + 1 := by
  have hk := (List.getElem?_eq_some_iff.1 h).1
  rw [onc_len] at hk
  have e := (List.getElem?_eq_some_iff.1 h).2
  rw [onc_at its hk] at e
  rw [← e]
/-- Who is there of the first ones; of the last ones. -/
def Put1 (its : List It) (i : Nat) (rs : List Rc) : Prop := ∀ x, x ∈ rs ↔ (∃ j y, j < i ∧ (onc its)[j]? = some y ∧ y.r = x) ∧ rightR x
def Put2 (its : List It) (i : Nat) (rs : List Rc) : Prop := ∀ x, x ∈ rs ↔ (∃ j y, its.length - i ≤ j ∧ (onc its)[j]? = some y ∧ y.r = x) ∧ rightR x
theorem Put1.start (its : List It) : Put1 its 0 [] := fun x => by simp
theorem Put2.start (its : List It) : Put2 its 0 [] := fun x => by
  simp only [List.not_mem_nil, Nat.sub_zero, false_iff]
  rintro ⟨⟨j, y, h1, h2, _⟩, _⟩
  have := (List.getElem?_eq_some_iff.1 h2).1
  rw [onc_len] at this; omega
theorem Put1.apart {its : List It} {i : Nat} {rs : List Rc} (h : Put1 its i rs) {y : It} (hy : (onc its)[i]? = some y) : ∀ x ∈ rs, ¬ ordS x y.r.key y.r.seq = 0 := fun x hx e => by
  obtain ⟨⟨j, z, h1, h2, h3⟩, _⟩ := (h x).1 hx
  have e1 := onc_seq h2; have e2 := onc_seq hy
  have e3 := ((ordS_eq x y.r.key y.r.seq).1 e).2
  rw [← h3] at e3; omega
theorem Put2.apart {its : List It} {i : Nat} {rs : List Rc} (h : Put2 its i rs) {y : It} (hi : i < its.length) (hy : (onc its)[its.length - 1 - i]? = some y) : ∀ x ∈ rs, ¬ ordS x y.r.key y.r.seq = 0 := fun x hx e => by
  obtain ⟨⟨j, z, h1, h2, h3⟩, _⟩ := (h x).1 hx
  have e1 := onc_seq h2; have e2 := onc_seq hy
  have e3 := ((ordS_eq x y.r.key y.r.seq).1 e).2
  rw [← h3] at e3; omega
theorem Put1.step {its : List It} {i : Nat} {rs rs' : List Rc} (h : Put1 its i rs) {y : It} (hy : (onc its)[i]? = some y) (hm : ∀ x, x ∈ rs' ↔ x ∈ rs ∨ (x = y.r ∧ rightR y.r)) : Put1 its (i + 1) rs' := fun x => by
  rw [hm, h x]
  constructor
  · rintro (⟨⟨j, z, h1, h2⟩, h3⟩ | ⟨h1, h2⟩)
    · exact ⟨⟨j, z, by omega, h2⟩, h3⟩
    · exact ⟨⟨i, y, by omega, hy, h1.symm⟩, by rw [h1]; exact h2⟩
  · rintro ⟨⟨j, z, h1, h2, h3⟩, h4⟩
    by_cases hj : j < i
    · exact .inl ⟨⟨j, z, hj, h2, h3⟩, h4⟩
    · obtain rfl : j = i := by omega
      rw [hy] at h2; injection h2 with h2
      exact .inr ⟨by rw [h2, h3], by rw [h2, h3]; exact h4⟩
theorem Put2.step {its : List It} {i : Nat} {rs rs' : List Rc} (h : Put2 its i rs) {y : It} (hi : i < its.length) (hy : (onc its)[its.length - 1 - i]? = some y) (hm : ∀ x, x ∈ rs' ↔ x ∈ rs ∨ (x = y.r ∧ rightR y.r)) : Put2 its (i + 1) rs' := fun x => by
  rw [hm, h x]
  constructor
  · rintro (⟨⟨j, z, h1, h2⟩, h3⟩ | ⟨h1, h2⟩)
    · exact ⟨⟨j, z, by omega, h2⟩, h3⟩
    · exact ⟨⟨its.length - 1 - i, y, by omega, hy, h1.symm⟩, by rw [h1]; exact h2⟩
  · rintro ⟨⟨j, z, h1, h2, h3⟩, h4⟩
    by_cases hj : its.length - i ≤ j
    · exact .inl ⟨⟨j, z, hj, h2, h3⟩, h4⟩
    · obtain rfl : j = its.length - 1 - i := by omega
      rw [hy] at h2; injection h2 with h2
      exact .inr ⟨by rw [h2, h3], by rw [h2, h3]; exact h4⟩
theorem put_both {its : List It} {rs1 rs2 : List Rc} (h1 : Put1 its its.length rs1) (h2 : Put2 its its.length rs2) (s1 : Sorted rs1) (s2 : Sorted rs2) : rs1 = rs2 := by
  refine sorted_ext s1 s2 fun x => ?_
  rw [h1 x, h2 x]
  refine and_congr ⟨?_, ?_⟩ Iff.rfl
  · rintro ⟨j, y, a, b⟩; exact ⟨j, y, by omega, b⟩
  · rintro ⟨j, y, a, b, c⟩
    have := (List.getElem?_eq_some_iff.1 b).1
    rw [onc_len] at this
    exact ⟨j, y, this, b, c⟩
end Go.Proofs.Ytpgbinijocbfmaa
