/- One record of a row, whole; and an append of one record. -/
import Derived.Test.YtfcemlcocdhmfaaHR
import Derived.Test.YtfcemlcocdhmfaaHO
namespace Go.Proofs.Ytfcemlcocdhmfaa
open Go.RowKit Go
set_option linter.unusedVariables false
set_option linter.unusedSimpArgs false

theorem drop_at {xs : List El} {i : Nat} (h : i < xs.length) : xs.drop i = xs[i] :: xs.drop (i + 1) := List.drop_eq_getElem_cons h
abbrev elOf (A : Option Addr) (c : Nat) (A' : Option Addr) (c' : Nat) (r : Rc) : El := ⟨.slice A r.key.length c, .slice A' r.val.length c', r⟩
abbrev elRow (A : Option Addr) (c : Nat) (A' : Option Addr) (c' : Nat) (r : Rc) : Array Value := #[.slice A r.key.length c, .int .i64 r.seq, .bool r.del, .slice A' r.val.length c']
/-- One record of the row, with its cells. -/
theorem RowB.pick {w : World} {A : Option Addr} {n c : Nat} {qs : List El} (h : RowB w (.slice A n c) qs) {k : Nat} (hk : k < qs.length) :
    ∃ (b off : Nat) (Ak : Option Addr) (ck : Nat) (Av : Option Addr) (cv : Nat) (r : Rc), A = some ⟨b, off, none⟩ ∧ b < w.heap.size ∧ qs[k] = elOf Ak ck Av cv r ∧
      w.cell? ⟨b, off + k * 4, none⟩ = some (.slice Ak r.key.length ck) ∧ w.cell? ⟨b, off + k * 4 + 1, none⟩ = some (.int .i64 r.seq) ∧ w.cell? ⟨b, off + k * 4 + 2, none⟩ = some (.bool r.del) ∧ w.cell? ⟨b, off + k * 4 + 3, none⟩ = some (.slice Av r.val.length cv) ∧
      Bs w w.heap.size (.slice Ak r.key.length ck) r.key ∧ Bs w w.heap.size (.slice Av r.val.length cv) r.val := by
  obtain ⟨b, off, e, hb, h0, h1, h2, h3⟩ := h.at_ hk
  obtain ⟨b0, b1⟩ := h.bs _ (List.getElem_mem hk)
  obtain ⟨Ak, ck, e0, x0⟩ := id b0
  obtain ⟨Av, cv, e1, x1⟩ := id b1
  rw [e0] at h0 b0; rw [e1] at h3 b1
  refine ⟨b, off, Ak, ck, Av, cv, qs[k].r, e, hb, ?_, h0, h1, h2, h3, b0, b1⟩
  unfold elOf; rw [← e0, ← e1]
/-- A row of records of the call's own, whose texts are others'. -/
structure OutB (w : World) (B : Nat) (v : Value) (qs : List El) : Prop where
  own : w.ownsRow B 40 4 v qs.length (elCells qs)
theorem OutB.nil (w : World) (B : Nat) : OutB w B (.slice none 0 0) [] := ⟨World.ownsRow_nil _ _ _ _⟩
theorem OutB.below {w w' : World} {B : Nat} {v : Value} {qs : List El} (h : OutB w B v qs) (hb : Below w.heap.size w w') : OutB w' B v qs := ⟨own_below h.own hb⟩
theorem OutB.drewN {w : World} {B : Nat} {v : Value} {qs : List El} (h : OutB w B v qs) (n : Nat) : OutB (w.drewN n) B v qs := ⟨h.own⟩
theorem OutB.row {w w0 : World} {v : Value} {qs : List El} (h : OutB w w0.heap.size v qs) (hb : Below w0.heap.size w0 w) (hq : ∀ q ∈ qs, Bs w0 w0.heap.size q.kv q.r.key ∧ Bs w0 w0.heap.size q.vv q.r.val) : RowB w v qs := by
  have hu := RowU.of_own h.own
  obtain ⟨A, c, rfl⟩ := hu.form
  obtain ⟨h1, h2⟩ := hu.rd (B := w.heap.size) fun b hb => hb.2
  exact ⟨A, c, rfl, h2, h1, fun q hq' => ⟨(hq q hq').1.up hb, (hq q hq').2.up hb⟩⟩
theorem OutB.form {w : World} {B : Nat} {v : Value} {qs : List El} (h : OutB w B v qs) : ∃ A c, v = .slice A qs.length c := by
  obtain ⟨A, c, e, _⟩ := own_form h.own; exact ⟨A, c, e⟩
theorem rec_parts : ∃ i0, Try.prog.info? 40 = some i0 ∧ ∃ z, i0.zero = some z ∧ z.cells.size = 4 ∧ i0.size = 4 ∧ i0.bytes = 64 := by
  obtain ⟨i0, hi, hz0, hz1, hz2⟩ := info_parts rec_info
  exact ⟨i0, hi, _, hz0, rfl, hz1, hz2⟩
/-- One record more, laid first in a block of its own. -/
theorem app_el {ops : Array Oper} {rest : List Oper} {o : Oper} {a : Act} {Q : Exit → Act → World → Prop} (hgd : o.guard = none) (s x : Operand)
    (ho : o.op = .call { callee := .builtin .append, args := #[s, x], argTypes := #[25, 25] })
    (w0 w : World) (B : Nat) (v : Value) (os : List El) (A : Option Addr) (c : Nat) (A' : Option Addr) (c' : Nat) (r : Rc) (hs : a.eval s = v) (hx : a.eval x = .slice (some ⟨w.heap.size, 0, none⟩) 1 1)
    (hO : OutB w B v os) (hB : Below B w0 w) (hb : B ≤ w0.heap.size) (hl : os.length ≤ 2000000000)
    (h : ∀ v' w', OutB w' B v' (os ++ [elOf A c A' c' r]) → Below B w0 w' → wpList Try.prog ops Q rest (a.put o.dst v') w') :
    wpList Try.prog ops Q (o :: rest) a (w.alloc (.cells (elRow A c A' c' r) 40)) := by
  obtain ⟨i0, hi, z, hz0, hz, hz1, hz2⟩ := rec_parts
  have hbw : B ≤ w.heap.size := Nat.le_trans hb hB.size
  have hbw' : B ≤ (w.alloc (.cells (elRow A c A' c' r) 40)).heap.size := Nat.le_trans hbw (by simp)
  have ho' : (w.alloc (.cells (elRow A c A' c' r) 40)).ownsRow B 40 4 v os.length (elCells os) := World.ownsRow.alloc hO.own _
  refine wpList_app hgd s x _ ho B 40 i0 z 4 64 Try.underlying25 hi hz0 hz1 hz2 hz (by omega) v os.length (elCells os) hs ho' _ _ 1 1 _ hx (Rd.fresh w (elRow A c A' c' r) 40 1 4 rfl) rec_one (by unfold maxLen; omega) (by omega) hbw' ?_
  intro v4 w4 hO4 hg _
  refine h v4 w4 ⟨?_⟩ (own_app_below (hB.alloc hbw _) hbw' ho' hg)
  rw [elCells_app, List.length_append]
  simpa [elCells, El.cells] using hO4
end Go.Proofs.Ytfcemlcocdhmfaa
