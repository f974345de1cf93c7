/- the reference's Told, Is, both, Add, Sub. -/
import Derived.Test.YtcoeooakimbkbaaR2
import Derived.Test.YtcoeooakimbkbaaA
namespace Go.Proofs.Ytcoeooakimbkbaa
open Go.RowKit Go
set_option linter.unusedVariables false
set_option linter.unusedSimpArgs false

theorem two_low {m : Int} (h0 : 0 ≤ m) (h1 : m ≤ 18446744073709551615) : dg 0 m + dg 1 m * 4294967296 = m := by
  obtain ⟨e0, e1, _, _⟩ := dg_small h0 h1
  rw [e0, e1]; omega
theorem amt_wz_yes {n : Bool} {m : Int} (h0 : 0 ≤ m) (h : m ≤ 4611686018427387904) : amt (wz n m) = true := by
  cases n <;> simp [amt, wz] <;> omega
theorem amt_wz_no {n : Bool} {m : Int} (h0 : 0 ≤ m) (h : 4611686018427387904 < m) : ¬ amt (wz n m) = true := by
  cases n <;> simp [amt, wz] <;> omega

theorem Wide.pre {w0 w' : World} {z L : Int} {e : Ending} (h : Wide z L w0 e w') : ∃ n m, e = .returned (wd n m) ∧ 0 ≤ m ∧ m ≤ L ∧ Hid (wz n m = z) ∧ Below w0.heap.size w0 w' := by
  obtain ⟨⟨n, m, h1, h2, h3, h4⟩, h5⟩ := h
  exact ⟨n, m, h1, h2, h3, h4, h5⟩
theorem amt_abs {a : Int} (h : amt a = true) : (a.natAbs : Int) ≤ 4611686018427387904 := by have := amt_yes h; omega
theorem wz_of (a : Int) : wz (decide (a < 0)) a.natAbs = a := by
  by_cases h : a < 0 <;> simp [wz, h] <;> omega

theorem wz_neg (a : Int) : wz (decide (0 < a)) a.natAbs = -a := by
  by_cases h : 0 < a <;> simp [wz, h] <;> omega

theorem blk5 {w1 : World} {v0 v1 v2 v3 v4 : Value} {t g : Nat} (h : w1.heap[g]? = some (.cells #[v0, v1, v2, v3, v4] t (0, 0))) :
    w1.cell? ⟨g, 0, none⟩ = some v0 ∧ w1.cell? ⟨g, 1, none⟩ = some v1 ∧ w1.cell? ⟨g, 2, none⟩ = some v2 ∧ w1.cell? ⟨g, 3, none⟩ = some v3 ∧ w1.cell? ⟨g, 4, none⟩ = some v4 ∧ ∀ i, w1.frozen? ⟨g, i, none⟩ = false := by
  simp [World.cell?, World.frozen?, h]
theorem set5_blk {w1 : World} {v0 v1 v2 v3 v4 : Value} {t g : Nat} (h : w1.heap[g]? = some (.cells #[v0, v1, v2, v3, v4] t (0, 0))) (u0 u1 u2 u3 u4 : Value) :
    (((((w1.setCell ⟨g, 0, none⟩ u0).setCell ⟨g, 1, none⟩ u1).setCell ⟨g, 2, none⟩ u2).setCell ⟨g, 3, none⟩ u3).setCell ⟨g, 4, none⟩ u4).heap[g]? = some (.cells #[u0, u1, u2, u3, u4] t (0, 0)) := by
  simp [World.setCell, Array.getElem?_modify, h]
theorem sum_snoc (zs : List Int) (k : Nat) (h : k < zs.length) : (zs.take (k + 1)).sum = (zs.take k).sum + zs[k] := by
  rw [List.take_succ_eq_append_getElem h, List.sum_append, List.sum_cons, List.sum_nil, Int.add_zero]

/-- Behind k rounds of Sum. -/
def SumAt (zs : List Int) (w : World) (t : Nat) (i : Value) (wr : World) : Prop := ∃ (k : Nat) (n : Bool) (m : Int), k ≤ zs.length ∧ i = .int .i64 k ∧
  Hid (wr.heap[w.heap.size]? = some (.cells #[.bool n, .int .u64 (dg 0 m), .int .u64 (dg 1 m), .int .u64 (dg 2 m), .int .u64 (dg 3 m)] t (0, 0))) ∧ 0 ≤ m ∧ m ≤ k * 4611686018427387904 ∧
  Hid (wz n m = (zs.take k).sum) ∧ Hid ((zs.take k).all amt = true) ∧ Below w.heap.size w wr ∧ w.heap.size < wr.heap.size

end Go.Proofs.Ytcoeooakimbkbaa
