/- Items as they come in. -/
import Derived.Test.YtcojckgmmklffaaF
import Derived.Test.YtcojckgmmklffaaAW1
namespace Go.Proofs.Ytcojckgmmklffaa
open Go.RowKit Go
set_option linter.unusedVariables false
set_option linter.unusedSimpArgs false

def dqs (l : List (Int × Int × Int × Int)) : List Dq := l.map fun q => ⟨q.1, q.2.1, q.2.2.1, q.2.2.2⟩
theorem dqs_len (l : List (Int × Int × Int × Int)) : (dqs l).length = l.length := by simp [dqs]
theorem Rd.of_quads {w : World} {A : Option Addr} {l : List (Int × Int × Int × Int)} (h : 0 < l.length → ∃ b off, A = some ⟨b, off, none⟩ ∧ b < w.heap.size ∧ ∀ k (hk : k < l.length), w.cell? ⟨b, off + k * 4, none⟩ = some (.int .i64 l[k].1) ∧ w.cell? ⟨b, off + k * 4 + 1, none⟩ = some (.int .i64 l[k].2.1) ∧
        w.cell? ⟨b, off + k * 4 + 2, none⟩ = some (.int .i64 l[k].2.2.1) ∧ w.cell? ⟨b, off + k * 4 + 3, none⟩ = some (.int .i64 l[k].2.2.2)) : Rd w w.heap.size 4 A l.length (itCs (dqs l)) := by
  refine ⟨by rw [itCs_len, dqs_len], fun h0 => ?_⟩
  obtain ⟨b, off, e, hb, hc⟩ := h h0
  refine ⟨b, off, e, hb, fun j hj => ?_⟩
  have hk : j / 4 < l.length := by omega
  obtain ⟨c0, c1, c2, c3⟩ := hc (j / 4) hk
  obtain ⟨d0, d1, d2, d3⟩ := itCs_at (dqs l) (j / 4) (by rw [dqs_len]; exact hk)
  have e0 : (dqs l)[j / 4]'(by rw [dqs_len]; exact hk) = ⟨l[j / 4].1, l[j / 4].2.1, l[j / 4].2.2.1, l[j / 4].2.2.2⟩ := by simp [dqs]
  rw [e0] at d0 d1 d2 d3
  rcases (show j = j / 4 * 4 ∨ j = j / 4 * 4 + 1 ∨ j = j / 4 * 4 + 2 ∨ j = j / 4 * 4 + 3 by omega) with h | h | h | h
  · rw [h] at *; rw [show (j / 4 * 4) / 4 = j / 4 by omega] at *; exact c0.trans d0.symm
  · have c := c1.trans d1.symm; rw [Nat.add_assoc, ← h] at c; exact c
  · have c := c2.trans d2.symm; rw [Nat.add_assoc, ← h] at c; exact c
  · have c := c3.trans d3.symm; rw [Nat.add_assoc, ← h] at c; exact c
end Go.Proofs.Ytcojckgmmklffaa
