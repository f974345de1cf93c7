/- The skip list in memory; behind: the way down. -/
import Derived.Test.YtfcemlcocdhmfaaJ
import Derived.Outline
import Derived.Deep.LoopGhost
import Derived.Deep.MidRow
import Derived.Deep.DeepCutAuto
namespace Go.Proofs.Ytfcemlcocdhmfaa
open Go.RowKit Go
set_option linter.unusedVariables false
set_option linter.unusedSimpArgs false

/-- A slice of bytes that reads as l, whose block is of U (and of bytes alone). -/
def BsU (w : World) (U : Nat → Prop) (v : Value) (l : List UInt8) : Prop :=
  ∃ A c, v = .slice A l.length c ∧ (0 < l.length → ∃ b off, A = some ⟨b, off, none⟩ ∧ U b ∧ (∃ cs, w.heap[b]? = some (.cells cs 5 (0, 0))) ∧ ∀ j, j < l.length → w.cell? ⟨b, off + j, none⟩ = (u8s l)[j]?)
theorem BsU.bs {w : World} {U : Nat → Prop} {v : Value} {l : List UInt8} (h : BsU w U v l) {B : Nat} (hB : ∀ b, U b → b < B) : Bs w B v l := by
  obtain ⟨A, c, e, h⟩ := h
  refine ⟨A, c, e, by simp [u8s_len], fun h0 => ?_⟩
  obtain ⟨b, off, e2, hb, _, hc⟩ := h h0
  exact ⟨b, off, e2, hB b hb, fun j hj => hc j (by omega)⟩
theorem BsU.keepT {w w' : World} {U : Nat → Prop} {v : Value} {l : List UInt8} (h : BsU w U v l) (hk : ∀ b cs, U b → w.heap[b]? = some (.cells cs 5 (0, 0)) → w'.heap[b]? = w.heap[b]?) : BsU w' U v l := by
  obtain ⟨A, c, e, h⟩ := h
  refine ⟨A, c, e, fun h0 => ?_⟩
  obtain ⟨b, off, e2, hb, ⟨cs, ht⟩, hc⟩ := h h0
  have hh := hk b cs hb ht
  exact ⟨b, off, e2, hb, ⟨cs, hh.trans ht⟩, fun j hj => (World.cell?_of_block (a := ⟨b, off + j, none⟩) hh).trans (hc j hj)⟩
theorem BsU.keep {w w' : World} {U : Nat → Prop} {v : Value} {l : List UInt8} (h : BsU w U v l) (hk : ∀ b, U b → w'.heap[b]? = w.heap[b]?) : BsU w' U v l :=
  h.keepT fun b _ hb _ => hk b hb
theorem BsU.wider {w : World} {U V : Nat → Prop} {v : Value} {l : List UInt8} (h : BsU w U v l) (hk : ∀ b, U b → V b) : BsU w V v l := by
  obtain ⟨A, c, e, h⟩ := h
  refine ⟨A, c, e, fun h0 => ?_⟩
  obtain ⟨b, off, e2, hb, ht, hc⟩ := h h0
  exact ⟨b, off, e2, hk b hb, ht, hc⟩

def sizeS (rs : List Rc) : Nat := (rs.map fun r => r.key.length + r.val.length + 16).sum

end Go.Proofs.Ytfcemlcocdhmfaa
