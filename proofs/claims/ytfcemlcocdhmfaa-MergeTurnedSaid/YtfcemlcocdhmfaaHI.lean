/- Runs that lie below a block. -/
import Derived.Test.YtfcemlcocdhmfaaHG
namespace Go.Proofs.Ytfcemlcocdhmfaa
open Go.RowKit Go
set_option linter.unusedVariables false
set_option linter.unusedSimpArgs false

/-- The run lies below block B. -/
def RnB (w : World) (B : Nat) (r : Rn) : Prop := (∃ A c, r.lv = .slice A r.els.length c ∧ r.els.length ≤ c ∧ Rd w B 4 A r.els.length (elCells r.els) ∧ ∀ q ∈ r.els, Bs w B q.kv q.r.key ∧ Bs w B q.vv q.r.val) ∧ r.els ≠ [] ∧ r.els.length ≤ 1099511627776 ∧ r.pl ≤ 1000000
theorem RnB.at_ {w : World} {B : Nat} {r : Rn} (h : RnB w B r) (hB : B ≤ w.heap.size) : RnAt w r := by
  obtain ⟨⟨A, c, h1, h2, h3, h4⟩, h5⟩ := h
  exact ⟨⟨A, c, h1, h2, h3.wider hB, fun q hq => ⟨(h4 q hq).1.wider hB, (h4 q hq).2.wider hB⟩⟩, h5⟩
theorem RnB.form {w : World} {B : Nat} {r : Rn} (h : RnB w B r) : ∃ A k c, r.lv = .slice A k c := let ⟨⟨A, c, e, _⟩, _⟩ := h; ⟨A, _, c, e⟩
theorem RnB.keep {w w' : World} {B : Nat} {r : Rn} (h : RnB w B r) (hk : ∀ p : Addr, p.block < B → w'.cell? p = w.cell? p) : RnB w' B r := by
  obtain ⟨⟨A, c, h1, h2, h3, h4⟩, h5⟩ := h
  exact ⟨⟨A, c, h1, h2, h3.of_cells hk, fun q hq => ⟨(h4 q hq).1.of_cells hk, (h4 q hq).2.of_cells hk⟩⟩, h5⟩
theorem grown_cell {w w' : World} {g B : Nat} (h : w.grownBy w' (some g)) (hB : B ≤ g) (hw : B ≤ w.heap.size) (p : Addr) (hp : p.block < B) : w'.cell? p = w.cell? p :=
  World.cell?_of_block (h.block p.block (by omega) (by intro e; injection e with e; omega))
end Go.Proofs.Ytfcemlcocdhmfaa
