/- What SkipOwn needs: items put together, bytes that are flipped, a record that is there. -/
import Derived.Test.YtpgbinijocbfmaaP12
import Derived.Deep.RegionLaw
namespace Go.Proofs.Ytpgbinijocbfmaa
open Go.RowKit Go
set_option linter.unusedVariables false
set_option linter.unusedSimpArgs false

/-- wp_app at a step of a region that draws. -/
theorem step_app {P : Program} {w : World} {ops : Array Oper} {o : Oper} {a : Act} {K : Act → World → Prop} {Q : Exit → Act → World → Prop} {E : Prop} (hgd : o.guard = none) (s x : Operand) (t : TypeId) (ho : o.op = .call { callee := .builtin .append, args := #[s, x], argTypes := #[t, t] })
    (base : Nat) (e : TypeId) (i : TypeInfo) (z : Value) (size bytes : Nat) (ht : P.underlying t = some (.slice e)) (hi : P.info? e = some i) (hz : i.zero = some z)
    (hsize : i.size = size) (hby : i.bytes = bytes) (hzs : z.cells.size = size) (hsz : 0 < size) (v : Value) (n : Nat) (xs : List Value) (hs : a.eval s = v) (hown : w.ownsRow base e size v n xs)
    (B : Nat) (A : Option Addr) (m c : Nat) (news : List Value) (hx : a.eval x = .slice A m c) (hr : Rd w B size A m news) (h1 : ∀ u ∈ news, u.oneCell' = true)
    (h63 : n + m ≤ maxLen) (hbytes : (n + m) * bytes ≤ 140737488355328) (hbase : base ≤ w.heap.size)
    (h : ∀ v' w', w'.ownsRow base e size v' (n + m) (xs ++ news) → w.grownBy w' v.ownBlock → (v'.ownBlock = v.ownBlock ∨ v'.ownBlock = some w.heap.size) → K (a.put o.dst v') w') :
    if Region.wanted o (yielded ops a.tmps) = true then Oper.wp P o a w K Q else E := by
  have hw : Region.wanted o (yielded ops a.tmps) = true := by simp [Region.wanted, hgd]
  rw [if_pos hw]
  exact wp_app s x t ho base e i z size bytes ht hi hz hsize hby hzs hsz v n xs hs hown B A m c news hx hr h1 h63 hbytes hbase h

def It.cells (i : It) : List Value := [i.kv, .int .i64 i.r.seq, .bool i.r.del, i.vv, .int .i64 i.draw]
def itCells (its : List It) : List Value := its.flatMap It.cells
theorem itCells_len (its : List It) : (itCells its).length = its.length * 5 := by
  unfold itCells
  induction its with
  | nil => rfl
  | cons q qs ih => rw [List.flatMap_cons, List.length_append, ih]; simp [It.cells]; omega
theorem itCells_app (a b : List It) : itCells (a ++ b) = itCells a ++ itCells b := by simp [itCells]
theorem itCells_drop (its : List It) (k : Nat) : (itCells its).drop (k * 5) = itCells (its.drop k) := by
  induction its generalizing k with
  | nil => simp [itCells]
  | cons q qs ih =>
    cases k with
    | zero => simp [itCells]
    | succ k =>
      have h1 : itCells (q :: qs) = q.cells ++ itCells qs := by simp [itCells]
      rw [List.drop_succ_cons, h1, ← ih k, List.drop_append]
      have : q.cells.length = 5 := rfl
      rw [this, show (k + 1) * 5 - 5 = k * 5 by omega, List.drop_of_length_le (by rw [this]; omega), List.nil_append]
theorem itCells_at (its : List It) (k : Nat) (h : k < its.length) : (itCells its)[k * 5]? = some its[k].kv ∧ (itCells its)[k * 5 + 1]? = some (.int .i64 its[k].r.seq) ∧ (itCells its)[k * 5 + 2]? = some (.bool its[k].r.del) ∧ (itCells its)[k * 5 + 3]? = some its[k].vv ∧ (itCells its)[k * 5 + 4]? = some (.int .i64 its[k].draw) := by
  have h1 := itCells_drop its k
  rw [List.drop_eq_getElem_cons h] at h1
  have h2 : ∀ j, (itCells its)[k * 5 + j]? = (itCells (its[k] :: its.drop (k + 1)))[j]? := fun j => by rw [← h1, List.getElem?_drop]
  have h3 : itCells (its[k] :: its.drop (k + 1)) = its[k].cells ++ itCells (its.drop (k + 1)) := List.flatMap_cons
  rw [h3] at h2
  exact ⟨(h2 0).trans rfl, (h2 1).trans rfl, (h2 2).trans rfl, (h2 3).trans rfl, (h2 4).trans rfl⟩
theorem ItemsAt.rd {w : World} {A : Option Addr} {its : List It} (h : ItemsAt w A its) : Rd w w.heap.size 5 A its.length (itCells its) := by
  refine ⟨itCells_len its, fun h0 => ?_⟩
  obtain ⟨b, off, e, hb, hc⟩ := h.1 h0
  refine ⟨b, off, e, hb, fun j hj => ?_⟩
  have hk : j / 5 < its.length := by omega
  obtain ⟨c0, c1, c2, c3, c4⟩ := hc (j / 5) hk
  obtain ⟨d0, d1, d2, d3, d4⟩ := itCells_at its (j / 5) hk
  have hj5 : j = j / 5 * 5 + j % 5 := by omega
  have hm : j % 5 = 0 ∨ j % 5 = 1 ∨ j % 5 = 2 ∨ j % 5 = 3 ∨ j % 5 = 4 := by omega
  rcases hm with e | e | e | e | e <;> rw [hj5, e]
  · rw [Nat.add_zero]; exact c0.trans d0.symm
  · rw [← Nat.add_assoc]; exact c1.trans d1.symm
  · rw [← Nat.add_assoc]; exact c2.trans d2.symm
  · rw [← Nat.add_assoc]; exact c3.trans d3.symm
  · rw [← Nat.add_assoc]; exact c4.trans d4.symm
theorem ItemsAt.of_rd {w : World} {A : Option Addr} {its : List It} (h : Rd w w.heap.size 5 A its.length (itCells its)) (hok : ∀ i ∈ its, i.ok w) : ItemsAt w A its := by
  refine ⟨fun h0 => ?_, hok⟩
  obtain ⟨b, off, e, hb, hc⟩ := h.2 h0
  refine ⟨b, off, e, hb, fun k hk => ?_⟩
  obtain ⟨d0, d1, d2, d3, d4⟩ := itCells_at its k hk
  exact ⟨(hc (k * 5) (by omega)).trans d0, (hc (k * 5 + 1) (by omega)).trans d1, (hc (k * 5 + 2) (by omega)).trans d2, (hc (k * 5 + 3) (by omega)).trans d3, (hc (k * 5 + 4) (by omega)).trans d4⟩
theorem it_one {w : World} {its : List It} (h : ∀ i ∈ its, i.ok w) : ∀ u ∈ itCells its, u.oneCell' = true := by
  intro u hu
  obtain ⟨i, hi, hu⟩ := List.mem_flatMap.1 hu
  obtain ⟨⟨A, c, e1, _⟩, ⟨A', c', e2, _⟩, _⟩ := h i hi
  simp only [It.cells, e1, e2] at hu
  simp at hu
  rcases hu with rfl | rfl | rfl | rfl | rfl <;> rfl
theorem item_info : (Try.prog.info? 37).map (fun i => (i.zero, i.size, i.bytes)) = some (some (.agg #[.slice none 0 0, .int .i64 0, .bool false, .slice none 0 0, .int .i64 0]), 5, 72) := by kernel_rfl

/-- Only block g has turned. -/
structure Only (g : Nat) (w w' : World) : Prop where
  os : w'.os = w.os
  tape : w'.tape = w.tape
  output : w'.output = w.output
  size : w'.heap.size = w.heap.size
  block : ∀ b, b ≠ g → w'.heap[b]? = w.heap[b]?
theorem Only.refl (g : Nat) (w : World) : Only g w w := ⟨rfl, rfl, rfl, rfl, fun _ _ => rfl⟩
theorem Only.setCell {g : Nat} {w w' : World} (h : Only g w w') (i : Nat) (v : Value) : Only g w (w'.setCell ⟨g, i, none⟩ v) :=
  ⟨h.os, h.tape, h.output, by simpa using h.size, fun b hb => (Below.heap_setCell _ _ _ _ hb).trans (h.block b hb)⟩
theorem Only.drew {g : Nat} {w w' : World} (h : Only g w w') : Only g w w'.drew := ⟨h.os, h.tape, h.output, h.size, h.block⟩
theorem Only.to_below {B g : Nat} {w0 w w' : World} (h0 : Below B w0 w) (h : Only g w w') (hg : B ≤ g) : Below B w0 w' :=
  ⟨h.os.trans h0.os, h.tape.trans h0.tape, h.output.trans h0.output, by rw [h.size]; exact h0.size, fun b hb => (h.block b (by omega)).trans (h0.block b hb)⟩
/-- From place k on, block g still holds bytes. -/
def BytesFrom (w : World) (g k n : Nat) : Prop := ∃ cur : Array Value, w.heap[g]? = some (.cells cur 5 (0, 0)) ∧ ∀ j, k ≤ j → j < n → ∃ z : Int, 0 ≤ z ∧ z < 256 ∧ cur[j]? = some (.int .u8 z)
theorem BytesFrom.of_mine {B : Nat} {w : World} {A : Option Addr} {l : List UInt8} {c : Nat} (h : Mine B w (.slice A l.length c) l) (hl : l ≠ []) : ∃ g, A = some ⟨g, 0, none⟩ ∧ B ≤ g ∧ BytesFrom w g 0 l.length := by
  obtain ⟨_, h2⟩ := h.2 hl
  have hp : 0 < l.length := List.length_pos_iff.2 hl
  rcases h2 with ⟨_, h3⟩ | ⟨g, cap, cur, e, hg, hb, _, _, _, hx⟩
  · omega
  · injection e with e1 e2 e3
    refine ⟨g, e1, hg, cur, hb, fun j _ hj => ⟨(l[j].toNat : Int), by omega, by have := UInt8.toNat_lt l[j]; omega, ?_⟩⟩
    have : (cur.toList.take (l.length * 1))[j]? = (u8s l)[j]? := by rw [hx]
    rw [List.getElem?_take, if_pos (by omega), u8s_at l j hj] at this
    simpa using this
theorem BytesFrom.step {w : World} {g k n : Nat} (h : BytesFrom w g k n) (v : Value) : BytesFrom (w.setCell ⟨g, k, none⟩ v) g (k + 1) n := by
  obtain ⟨cur, hb, hc⟩ := h
  refine ⟨_, blk_set hb k v, fun j hj1 hj2 => ?_⟩
  obtain ⟨z, z1, z2, z3⟩ := hc j (by omega) hj2
  exact ⟨z, z1, z2, by rw [Array.getElem?_setIfInBounds, if_neg (by omega)]; exact z3⟩
theorem takeWhile_is {α : Type} {p : α → Bool} : ∀ {l : List α} {a : α}, a ∈ l.takeWhile p → p a = true
  | [], a, h => by simp at h
  | x :: l, a, h => by
    rw [List.takeWhile_cons] at h
    split at h
    · rename_i hx
      rcases List.mem_cons.1 h with h | h
      · rw [h]; exact hx
      · exact takeWhile_is h
    · simp at h
/-- A record that was put in is told. -/
theorem putS_told {rs rs' : List Rc} {high high' : Nat} {r : Rc} {draw : Int} (h : putS rs high r draw = (0, rs', high')) : ∃ A B, rs' = A ++ r :: B ∧ ∀ a ∈ A, ordS a r.key r.seq < 0 := by
  unfold putS at h
  by_cases h1 : rightN r.key.length r.seq r.del r.val.length = true
  · rw [if_pos h1] at h
    split at h
    · injection h with h2 h3; omega
    · injection h with h2 h3; injection h3 with h3 h4
      refine ⟨_, _, h3.symm, fun a ha => ?_⟩
      have := takeWhile_is ha
      simpa using this
  · rw [if_neg h1] at h
    injection h with h2 h3; omega
theorem getS_told {A B : List Rc} {r : Rc} (hA : ∀ a ∈ A, ordS a r.key r.seq < 0) : getS (A ++ r :: B) r.key r.seq = some r := by
  unfold getS
  rw [List.find?_append, List.find?_eq_none.2, List.find?_cons_of_pos (by simp)]
  · rfl
  · intro a ha
    have h1 := hA a ha
    rw [ordS_lt] at h1
    intro h2
    simp at h2
    rcases h1 with h1 | h1
    · rw [h2.1, compare_refl] at h1; omega
    · omega
theorem fromS_told {A B : List Rc} {r : Rc} : (fromS (A ++ r :: B) r.key 1).length = 1 := by
  unfold fromS
  have h : r ∈ (A ++ r :: B).filter fun x => !decide (Lib.compareBytes x.key r.key < 0) := by
    rw [List.mem_filter]; exact ⟨by simp, by rw [compare_refl]; rfl⟩
  have : 1 ≤ ((A ++ r :: B).filter fun x => !decide (Lib.compareBytes x.key r.key < 0)).length := List.length_pos_iff.2 (fun e => by rw [e] at h; cases h)
  rw [List.length_take]
  show min 1 _ = 1
  omega
end Go.Proofs.Ytpgbinijocbfmaa
