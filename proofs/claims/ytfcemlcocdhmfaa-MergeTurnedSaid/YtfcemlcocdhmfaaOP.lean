/- Rows of pairs that are made: how they lie, and stay; an append of one pair. -/
import Derived.Test.YtfcemlcocdhmfaaHV
import Derived.Test.YtfcemlcocdhmfaaA6
import Derived.Test.YtfcemlcocdhmfaaMB
import Derived.Test.YtfcemlcocdhmfaaA5
namespace Go.Proofs.Ytfcemlcocdhmfaa
open Go.RowKit Go
set_option linter.unusedVariables false
set_option linter.unusedSimpArgs false

theorem pair_info : (Try.prog.info? 58).map (fun i => (i.zero, i.size, i.bytes)) = some (some (.agg #[.slice none 0 0, .slice none 0 0]), 2, 48) := by kernel_rfl
theorem pair_parts : ∃ i0, Try.prog.info? 58 = some i0 ∧ ∃ z, i0.zero = some z ∧ z.cells.size = 2 ∧ i0.size = 2 ∧ i0.bytes = 48 := by
  obtain ⟨i0, hi, hz0, hz1, hz2⟩ := info_parts pair_info
  exact ⟨i0, hi, _, hz0, rfl, hz1, hz2⟩
/-- A row of pairs of the call's own. -/
structure OutP (w : World) (B : Nat) (v : Value) (ps : List Pr) : Prop where
  own : w.ownsRow B 58 2 v ps.length (prCells ps)
  el : ∀ q ∈ ps, Mine B w q.kv q.p.1 ∧ Mine B w q.vv q.p.2
theorem OutP.nil (w : World) (B : Nat) : OutP w B (.slice none 0 0) [] := ⟨World.ownsRow_nil _ _ _ _, fun q hq => by simp at hq⟩
theorem OutP.keepT {w w' : World} {B : Nat} {v : Value} {ps : List Pr} (h : OutP w B v ps) (hs : w.heap.size ≤ w'.heap.size)
    (hk : ∀ (b : Nat) (cs : Array Value) (t : Nat), t = 58 ∨ t = 5 → w.heap[b]? = some (Obj.cells cs t (0, 0)) → w'.heap[b]? = w.heap[b]?) : OutP w' B v ps := by
  refine ⟨?_, fun q hq => ⟨((h.el q hq).1).moveT hs fun b cs hb => hk b cs _ (.inr rfl) hb, ((h.el q hq).2).moveT hs fun b cs hb => hk b cs _ (.inr rfl) hb⟩⟩
  obtain ⟨h1, h2⟩ := h.own
  refine ⟨h1, ?_⟩
  rcases h2 with h2 | ⟨g, cap, cur, e, hb, hg, r⟩
  · exact .inl h2
  · exact .inr ⟨g, cap, cur, e, hb, (hk g cur _ (.inl rfl) hg).trans hg, r⟩
theorem OutP.below {w w' : World} {B : Nat} {v : Value} {ps : List Pr} (h : OutP w B v ps) (hb : Below w.heap.size w w') : OutP w' B v ps :=
  h.keepT hb.size fun b cs t _ hc => hb.block b (blk_lt hc)
theorem OutP.form {w : World} {B : Nat} {v : Value} {ps : List Pr} (h : OutP w B v ps) : ∃ A c, v = .slice A ps.length c := by
  obtain ⟨A, c, e, _⟩ := own_form h.own; exact ⟨A, c, e⟩
theorem OutP.row {w : World} {B : Nat} {v : Value} {ps : List Pr} (h : OutP w B v ps) : RowP w v ps := by
  obtain ⟨A, c, rfl⟩ := h.form
  exact ⟨A, c, rfl, Rd.of_own h.own, fun q hq => ⟨(h.el q hq).1.bs, (h.el q hq).2.bs⟩⟩
/-- A box of a pair list is set anew. -/
theorem OutP.set {w : World} {B go : Nat} {v u : Value} {ps : List Pr} {cs : Array Value} {t : Nat} (h : OutP w B v ps) (hc : w.heap[go]? = some (.cells cs t (0, 0))) (h1 : t ≠ 58) (h2 : t ≠ 5) (i : Nat) : OutP (w.setCell ⟨go, i, none⟩ u) B v ps :=
  h.keepT (by simp [World.setCell]) fun b cs' t' ht hb => Below.heap_setCell _ _ _ _ (by
    rcases ht with ht | ht
    · exact fun e => ne_of_type hc hb (by rw [ht]; exact h1) e.symm
    · exact fun e => ne_of_type hc hb (by rw [ht]; exact h2) e.symm)
/-- A block of another type stays, when the row grows. -/
theorem grown_keep {w w' : World} {B n s go : Nat} {e : TypeId} {v : Value} {xs : List Value} {cs : Array Value} {t : Nat} (ho : w.ownsRow B e s v n xs) (hg : w.grownBy w' v.ownBlock) (hc : w.heap[go]? = some (.cells cs t (0, 0))) (h1 : t ≠ e) : w'.heap[go]? = some (.cells cs t (0, 0)) := by
  refine (hg.block go (blk_lt hc) fun e' => ?_).trans hc
  obtain ⟨_, cs', h'⟩ := own_block_type ho e'.symm
  exact ne_of_type hc h' h1 rfl
theorem pair_one {A A' : Option Addr} {n n' c c' : Nat} : ∀ u ∈ (#[.slice A n c, .slice A' n' c'] : Array Value).toList, u.oneCell' = true := by
  intro u hu; simp at hu; rcases hu with rfl | rfl <;> rfl
/-- One pair more, laid first in a block of its own. -/
theorem app_pr {ops : Array Oper} {rest : List Oper} {o : Oper} {a : Act} {Q : Exit → Act → World → Prop} (hgd : o.guard = none) (s x : Operand)
    (ho : o.op = .call { callee := .builtin .append, args := #[s, x], argTypes := #[32, 32] })
    (w : World) (B : Nat) (v : Value) (ps : List Pr) (A : Option Addr) (c : Nat) (A' : Option Addr) (c' : Nat) (k l : List UInt8) (hs : a.eval s = v) (hx : a.eval x = .slice (some ⟨w.heap.size, 0, none⟩) 1 1)
    (hO : OutP w B v ps) (hm : Mine B w (.slice A k.length c) k ∧ Mine B w (.slice A' l.length c') l) (hb : B ≤ w.heap.size) (hl : ps.length ≤ 2000000000)
    (h : ∀ v' w', OutP w' B v' (ps ++ [⟨.slice A k.length c, .slice A' l.length c', (k, l)⟩]) → (w.alloc (.cells #[.slice A k.length c, .slice A' l.length c'] 58)).ownsRow B 58 2 v ps.length (prCells ps) → (w.alloc (.cells #[.slice A k.length c, .slice A' l.length c'] 58)).grownBy w' v.ownBlock → wpList Try.prog ops Q rest (a.put o.dst v') w') :
    wpList Try.prog ops Q (o :: rest) a (w.alloc (.cells #[.slice A k.length c, .slice A' l.length c'] 58)) := by
  obtain ⟨i0, hi, z, hz0, hz, hz1, hz2⟩ := pair_parts
  have hbw' : B ≤ (w.alloc (.cells #[.slice A k.length c, .slice A' l.length c'] 58)).heap.size := Nat.le_trans hb (by simp)
  have ho' : (w.alloc (.cells #[.slice A k.length c, .slice A' l.length c'] 58)).ownsRow B 58 2 v ps.length (prCells ps) := World.ownsRow.alloc hO.own _
  have hO' := hO.below (bnewH w (.cells #[.slice A k.length c, .slice A' l.length c'] 58))
  have hm' : Mine B (w.alloc (.cells #[.slice A k.length c, .slice A' l.length c'] 58)) (.slice A k.length c) k ∧ Mine B (w.alloc (.cells #[.slice A k.length c, .slice A' l.length c'] 58)) (.slice A' l.length c') l :=
    ⟨hm.1.moveT (by simp) (fun b cs hb => Below.heap_alloc _ _ _ (blk_lt hb)), hm.2.moveT (by simp) (fun b cs hb => Below.heap_alloc _ _ _ (blk_lt hb))⟩
  refine wpList_app hgd s x _ ho B 58 i0 z 2 48 Try.underlying32 hi hz0 hz1 hz2 hz (by omega) v ps.length (prCells ps) hs ho' _ _ 1 1 _ hx (Rd.fresh w #[.slice A k.length c, .slice A' l.length c'] 58 1 2 rfl) pair_one (by unfold maxLen; omega) (by omega) hbw' ?_
  intro v4 w4 hO4 hg _
  have hkb : ∀ (b : Nat) (cs : Array Value), (w.alloc (.cells #[.slice A k.length c, .slice A' l.length c'] 58)).heap[b]? = some (Obj.cells cs 5 (0, 0)) → w4.heap[b]? = (w.alloc (.cells #[.slice A k.length c, .slice A' l.length c'] 58)).heap[b]? := fun b cs hb =>
    (grown_keep ho' hg hb (by decide)).trans hb.symm
  refine h v4 w4 ⟨?_, fun z hz => ?_⟩ ho' hg
  · rw [prCells_app, List.length_append]
    simpa [prCells, Pr.cells] using hO4
  · rcases List.mem_append.1 hz with hz | hz
    · exact ⟨((hO'.el z hz).1).moveT hg.size hkb, ((hO'.el z hz).2).moveT hg.size hkb⟩
    · rw [List.mem_singleton.1 hz]; exact ⟨hm'.1.moveT hg.size hkb, hm'.2.moveT hg.size hkb⟩
/-- Where the first record stands that is not behind a moment. -/
theorem firstAt_cases (seq : Int) : ∀ (rs : List Rc) (k : Nat), (firstAt seq k rs = -1 ∧ atG seq rs = []) ∨ ∃ j r, rs[j]? = some r ∧ firstAt seq k rs = ((k + j : Nat) : Int) ∧ atG seq rs = if r.del then [] else [(r.key, r.val)]
  | [], k => .inl ⟨rfl, rfl⟩
  | r :: rs, k => by
    by_cases h : r.seq ≤ seq
    · exact .inr ⟨0, r, rfl, by rw [firstAt, if_pos h]; rfl, by rw [atG, if_pos h]⟩
    · rcases firstAt_cases seq rs (k + 1) with ⟨h1, h2⟩ | ⟨j, x, h1, h2, h3⟩
      · exact .inl ⟨by rw [firstAt, if_neg h]; exact h1, by rw [atG, if_neg h]; exact h2⟩
      · exact .inr ⟨j + 1, x, by simpa using h1, by rw [firstAt, if_neg h, h2]; congr 1; omega, by rw [atG, if_neg h]; exact h3⟩
end Go.Proofs.Ytfcemlcocdhmfaa
