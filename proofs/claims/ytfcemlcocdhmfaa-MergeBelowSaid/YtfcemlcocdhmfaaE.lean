/- Rows of records. -/
import Derived.Test.YtfcemlcocdhmfaaN
namespace Go.Proofs.Ytfcemlcocdhmfaa
open Go.RowKit Go
set_option linter.unusedVariables false
set_option linter.unusedSimpArgs false

/-- A record in a row: its cells, and what they say. -/
structure El where
  kv : Value
  vv : Value
  r : Rc
def El.cells (q : El) : List Value := [q.kv, .int .i64 q.r.seq, .bool q.r.del, q.vv]
def elCells (qs : List El) : List Value := qs.flatMap El.cells
def ElsOk (w : World) (U : Nat → Prop) (qs : List El) : Prop := ∀ q ∈ qs, BsU w U q.kv q.r.key ∧ BsU w U q.vv q.r.val
theorem elCells_len (qs : List El) : (elCells qs).length = qs.length * 4 := by
  unfold elCells
  induction qs with
  | nil => rfl
  | cons q qs ih => rw [List.flatMap_cons, List.length_append, ih]; simp [El.cells]; omega
theorem elCells_app (a b : List El) : elCells (a ++ b) = elCells a ++ elCells b := by simp [elCells]
theorem elCells_take (qs : List El) (k : Nat) : (elCells qs).take (k * 4) = elCells (qs.take k) := by
  induction qs generalizing k with
  | nil => simp [elCells]
  | cons q qs ih =>
    cases k with
    | zero => simp [elCells]
    | succ k =>
      have h1 : elCells (q :: qs) = q.cells ++ elCells qs := by simp [elCells]
      have h2 : elCells (q :: qs.take k) = q.cells ++ elCells (qs.take k) := by simp [elCells]
      rw [List.take_succ_cons, h1, h2, ← ih k, List.take_append]
      have : q.cells.length = 4 := rfl
      rw [this, show (k + 1) * 4 - 4 = k * 4 by omega, List.take_of_length_le (by rw [this]; omega)]
theorem elCells_drop (qs : List El) (k : Nat) : (elCells qs).drop (k * 4) = elCells (qs.drop k) := by
  induction qs generalizing k with
  | nil => simp [elCells]
  | cons q qs ih =>
    cases k with
    | zero => simp [elCells]
    | succ k =>
      have h1 : elCells (q :: qs) = q.cells ++ elCells qs := by simp [elCells]
      rw [List.drop_succ_cons, h1, ← ih k, List.drop_append]
      have : q.cells.length = 4 := rfl
      rw [this, show (k + 1) * 4 - 4 = k * 4 by omega, List.drop_of_length_le (by rw [this]; omega), List.nil_append]
theorem elCells_at (qs : List El) (k : Nat) (h : k < qs.length) : (elCells qs)[k * 4]? = some qs[k].kv ∧ (elCells qs)[k * 4 + 1]? = some (.int .i64 qs[k].r.seq) ∧ (elCells qs)[k * 4 + 2]? = some (.bool qs[k].r.del) ∧ (elCells qs)[k * 4 + 3]? = some qs[k].vv := by
  have h1 := elCells_drop qs k
  rw [List.drop_eq_getElem_cons h] at h1
  have h2 : ∀ j, (elCells qs)[k * 4 + j]? = (elCells (qs[k] :: qs.drop (k + 1)))[j]? := fun j => by rw [← h1, List.getElem?_drop]
  have h3 : elCells (qs[k] :: qs.drop (k + 1)) = qs[k].cells ++ elCells (qs.drop (k + 1)) := List.flatMap_cons
  rw [h3] at h2
  refine ⟨(h2 0).trans rfl, (h2 1).trans rfl, (h2 2).trans rfl, (h2 3).trans rfl⟩

theorem rec_info : (Try.prog.info? 40).map (fun i => (i.zero, i.size, i.bytes)) = some (some (.agg #[.slice none 0 0, .int .i64 0, .bool false, .slice none 0 0]), 4, 64) := by kernel_rfl
theorem own_below {w w' : World} {base : Nat} {e : TypeId} {size n : Nat} {v : Value} {xs : List Value} (h : w.ownsRow base e size v n xs) (hb : Below w.heap.size w w') : w'.ownsRow base e size v n xs := by
  refine ⟨h.1, ?_⟩
  rcases h.2 with hn | ⟨g, cap, cur, e1, e2, e3, e4⟩
  · exact .inl hn
  · exact .inr ⟨g, cap, cur, e1, e2, blk_below e3 hb (blk_lt e3), e4⟩
theorem own_block_type {w : World} {base : Nat} {e : TypeId} {size n : Nat} {v : Value} {xs : List Value} (h : w.ownsRow base e size v n xs) {b : Nat} (hb : v.ownBlock = some b) : base ≤ b ∧ ∃ cs, w.heap[b]? = some (.cells cs e (0, 0)) := by
  rcases h.2 with ⟨rfl, _⟩ | ⟨g, cap, cur, rfl, e2, e3, _⟩
  · simp [Value.ownBlock] at hb
  · simp [Value.ownBlock] at hb; subst hb; exact ⟨e2, cur, e3⟩
theorem el_one {w : World} {U : Nat → Prop} {qs : List El} (h : ElsOk w U qs) : ∀ u ∈ elCells qs, u.oneCell' = true := by
  intro u hu
  obtain ⟨q, hq, hu⟩ := List.mem_flatMap.1 hu
  obtain ⟨⟨A, c, e1, _⟩, ⟨A', c', e2, _⟩⟩ := h q hq
  simp only [El.cells, e1, e2] at hu
  simp at hu
  rcases hu with rfl | rfl | rfl | rfl <;> rfl
theorem ElsOk.keepT {w w' : World} {U V : Nat → Prop} {qs : List El} (h : ElsOk w U qs) (hk : ∀ b cs, U b → w.heap[b]? = some (.cells cs 5 (0, 0)) → w'.heap[b]? = w.heap[b]?) (hV : ∀ b, U b → V b) : ElsOk w' V qs :=
  fun q hq => ⟨((h q hq).1.keepT hk).wider hV, ((h q hq).2.keepT hk).wider hV⟩
/-- A slice of records that reads as qs; its block of V. -/
def RowU (w : World) (V : Nat → Prop) (v : Value) (qs : List El) : Prop :=
  ∃ A c, v = .slice A qs.length c ∧ qs.length ≤ c ∧ (0 < qs.length → ∃ b off, A = some ⟨b, off, none⟩ ∧ V b ∧ (∃ cs, w.heap[b]? = some (.cells cs 40 (0, 0))) ∧ ∀ j, j < qs.length * 4 → w.cell? ⟨b, off + j, none⟩ = (elCells qs)[j]?)
theorem RowU.keepT {w w' : World} {V V' : Nat → Prop} {v : Value} {qs : List El} (h : RowU w V v qs) (hk : ∀ (b : Nat) (cs : Array Value), V b → w.heap[b]? = some (Obj.cells cs 40 (0, 0)) → w'.heap[b]? = w.heap[b]?) (hV : ∀ b, V b → V' b) : RowU w' V' v qs := by
  obtain ⟨A, c, e, hc, h⟩ := h
  refine ⟨A, c, e, hc, fun h0 => ?_⟩
  obtain ⟨b, off, e2, hb, ⟨cs, ht⟩, hcl⟩ := h h0
  have hh := hk b cs hb ht
  exact ⟨b, off, e2, hV b hb, ⟨cs, hh.trans ht⟩, fun j hj => (World.cell?_of_block (a := ⟨b, off + j, none⟩) hh).trans (hcl j hj)⟩
theorem RowU.of_own {w : World} {base : Nat} {v : Value} {qs : List El} (h : w.ownsRow base 40 4 v qs.length (elCells qs)) : RowU w (fun b => base ≤ b ∧ b < w.heap.size) v qs := by
  rcases h.2 with ⟨rfl, hn⟩ | ⟨g, cap, cur, rfl, e2, e3, e4, e5, e6, e7⟩
  · exact ⟨none, 0, by rw [hn], by omega, fun h0 => by omega⟩
  · refine ⟨_, cap, rfl, e4, fun h0 => ⟨g, 0, rfl, ⟨e2, blk_lt e3⟩, ⟨cur, e3⟩, fun j hj => ?_⟩⟩
    rw [blk_cell e3, ← e7, Nat.zero_add]
    rw [List.getElem?_take, if_pos hj, Array.getElem?_toList]
theorem RowU.rd {w : World} {V : Nat → Prop} {A : Option Addr} {c : Nat} {qs : List El} (h : RowU w V (.slice A qs.length c) qs) {B : Nat} (hB : ∀ b, V b → b < B) : Rd w B 4 A qs.length (elCells qs) ∧ qs.length ≤ c := by
  obtain ⟨A', c', e, hc, h⟩ := h
  injection e with e1 e2 e3
  subst e1 e3
  refine ⟨⟨elCells_len qs, fun h0 => ?_⟩, hc⟩
  obtain ⟨b, off, e2, hb, _, hcl⟩ := h h0
  exact ⟨b, off, e2, hB b hb, hcl⟩
theorem RowU.form {w : World} {V : Nat → Prop} {v : Value} {qs : List El} (h : RowU w V v qs) : ∃ A c, v = .slice A qs.length c := let ⟨A, c, e, _⟩ := h; ⟨A, c, e⟩

/-- The cells of one record in the row. -/
theorem row_at {w : World} {b off : Nat} {qs : List El} (h : ∀ j, j < qs.length * 4 → w.cell? ⟨b, off + j, none⟩ = (elCells qs)[j]?) {k : Nat} (hk : k < qs.length) :
    w.cell? ⟨b, off + k * 4, none⟩ = some qs[k].kv ∧ w.cell? ⟨b, off + k * 4 + 1, none⟩ = some (.int .i64 qs[k].r.seq) ∧ w.cell? ⟨b, off + k * 4 + 2, none⟩ = some (.bool qs[k].r.del) ∧ w.cell? ⟨b, off + k * 4 + 3, none⟩ = some qs[k].vv := by
  obtain ⟨h0, h1, h2, h3⟩ := elCells_at qs k hk
  exact ⟨(h (k * 4) (by omega)).trans h0, (h (k * 4 + 1) (by omega)).trans h1, (h (k * 4 + 2) (by omega)).trans h2, (h (k * 4 + 3) (by omega)).trans h3⟩

theorem below_drewN {B : Nat} {a w : World} (h : Below B a w) (n : Nat) : Below B a (w.drewN n) := ⟨h.os, h.tape, h.output, h.size, h.block⟩
theorem cells2 {w : World} {v0 v1 : Value} {t g : Nat} (h : w.heap[g]? = some (.cells #[v0, v1] t (0, 0))) : w.cell? ⟨g, 0, none⟩ = some v0 ∧ w.cell? ⟨g, 1, none⟩ = some v1 ∧ ∀ i, w.frozen? ⟨g, i, none⟩ = false := by
  simp [World.cell?, World.frozen?, h]
theorem row_grow {base n : Nat} {w0 w3 W w4 : World} {v : Value} {xs : List Value} (hO : w3.ownsRow base 40 4 v n xs) (hB : Below base w0 w3) (hW : Below w3.heap.size w3 W) (hg : W.grownBy w4 v.ownBlock) (hb0 : base ≤ w0.heap.size) :
    Below base w0 w4 ∧ (∀ (b : Nat) (cs : Array Value), w3.heap[b]? = some (Obj.cells cs 5 (0, 0)) → w4.heap[b]? = w3.heap[b]?) ∧ w3.heap.size ≤ w4.heap.size := by
  have sz : w3.heap.size ≤ w4.heap.size := Nat.le_trans hW.size hg.size
  have keep : ∀ b : Nat, b < w3.heap.size → some b ≠ v.ownBlock → w4.heap[b]? = w3.heap[b]? := fun b hb hne => (hg.block b (Nat.lt_of_lt_of_le hb hW.size) hne).trans (hW.block b hb)
  refine ⟨⟨(hg.os.trans hW.os).trans hB.os, (hg.tape.trans hW.tape).trans hB.tape, (hg.output.trans hW.output).trans hB.output, Nat.le_trans hB.size sz, fun b hb => ?_⟩, fun b cs hb => ?_, sz⟩
  · refine (keep b (by have := hB.size; omega) (fun e => ?_)).trans (hB.block b hb)
    have := (own_block_type hO e.symm).1; omega
  · refine keep b (blk_lt hb) (fun e => ?_)
    obtain ⟨_, cs', h'⟩ := own_block_type hO e.symm
    exact ne_of_type hb h' (by decide) rfl
theorem Mine.moveT {B : Nat} {w2 w3 : World} {v : Value} {l : List UInt8} (h : Mine B w2 v l) (h23 : w2.heap.size ≤ w3.heap.size) (hb : ∀ (b : Nat) (cs : Array Value), w2.heap[b]? = some (Obj.cells cs 5 (0, 0)) → w3.heap[b]? = w2.heap[b]?) : Mine B w3 v l := by
  obtain ⟨h2, h3⟩ := h
  refine ⟨(h2.keepT (fun b cs _ hc => hb b cs hc)).wider (fun b hb' => ⟨hb'.1, Nat.lt_of_lt_of_le hb'.2 h23⟩), fun hl => ?_⟩
  obtain ⟨e, h4⟩ := h3 hl
  refine ⟨e, ?_⟩
  rcases h4 with h4 | ⟨g, cap, cur, e1, e2, e3, e4⟩
  · exact .inl h4
  · exact .inr ⟨g, cap, cur, e1, e2, (hb g cur e3).trans e3, e4⟩
theorem Rd.drop {w : World} {B s n k c : Nat} {A : Option Addr} {xs : List Value} (h : Rd w B s A n xs) (hk : k ≤ n) (hc : n ≤ c) : Rd w B s (if c = k then A else A.map (·.add (k * s))) (n - k) (xs.drop (k * s)) := by
  refine ⟨by rw [List.length_drop, h.1, Nat.sub_mul], fun h0 => ?_⟩
  obtain ⟨b, off, rfl, hb, hcl⟩ := h.2 (by omega)
  rw [if_neg (by omega)]
  refine ⟨b, off + k * s, ?_, hb, fun j hj => ?_⟩
  · show some ((⟨b, off, none⟩ : Addr).add (k * s)) = _
    unfold Addr.add; split
    · rename_i e; rw [e]; rfl
    · rfl
  · rw [List.getElem?_drop, Nat.add_assoc]
    refine hcl (k * s + j) ?_
    have : (n - k) * s + k * s = n * s := by rw [← Nat.add_mul]; congr 1; omega
    omega
end Go.Proofs.Ytfcemlcocdhmfaa
