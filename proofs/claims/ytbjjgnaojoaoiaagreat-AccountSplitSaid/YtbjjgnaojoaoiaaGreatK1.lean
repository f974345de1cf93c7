/- A slice of integers that came in. -/
import Derived.Test.YtbjjgnaojoaoiaaGreatK0
import Derived.OpenShut
namespace Go.Proofs.YtbjjgnaojoaoiaaGreat
open Go.RowKit Go
set_option linter.unusedVariables false

/-- What the shell says of a slice of integers that came in. -/
theorem Rd.of_row {w : World} {a : Option Addr} {len cap : Nat} {zs : List Int}
    (h : (a = none ∧ len = 0 ∧ cap = 0 ∧ zs = []) ∨ ∃ x, a = some x ∧ len ≤ cap ∧ cap ≤ maxLen ∧ zs.length = cap ∧ (∀ i, i < zs.length → w.cell? (x.add i) = some (.int .i64 (zs.getD i 0))) ∧ ∀ n ∈ zs, (Lit.int .i64 n).wf = true) :
    ∃ l : List Int, l.length = len ∧ len ≤ maxLen ∧ Rd w w.heap.size 1 a l.length (ints l) ∧ ∀ z ∈ l, -9223372036854775808 ≤ z ∧ z ≤ 9223372036854775807 := by
  rcases h with ⟨rfl, rfl, rfl, rfl⟩ | ⟨x, rfl, hl, hm, hz, hc, hw⟩
  · exact ⟨[], rfl, by simp, ⟨rfl, fun h => absurd h (by simp)⟩, by simp⟩
  · refine ⟨zs.take len, by simp; omega, by omega, ⟨by simp [ints], fun h0 => ?_⟩, fun z hzz => ?_⟩
    · have hlen : (zs.take len).length = len := by simp; omega
      rw [hlen] at h0 ⊢
      have hx0 := hc 0 (by omega)
      have hx : x.add 0 = x := by simp [Addr.add]
      rw [hx] at hx0
      have hb := World.block_lt_of_cell? w _ hx0
      have hs : x.spot = none := by
        unfold World.cell? at hx0
        split at hx0
        · by_cases h : x.spot.isSome = true
          · rw [if_pos h] at hx0; cases hx0
          · simpa using h
        · cases hx0
      refine ⟨x.block, x.off, ?_, hb, fun j hj => ?_⟩
      · cases x; simp at hs; subst hs; rfl
      · have hcj := hc j (by omega)
        have he : x.add j = ⟨x.block, x.off + j, none⟩ := by
          unfold Addr.add; split
          · rename_i h; subst h; cases x; simp at hs; subst hs; rfl
          · rfl
        rw [he] at hcj
        rw [hcj, ints_at _ _ (by rw [hlen]; omega)]
        simp [List.getD, show j < zs.length by omega]
    · have h1 := hw z (List.mem_of_mem_take hzz)
      have := bounds_i64 h1
      omega
end Go.Proofs.YtbjjgnaojoaoiaaGreat
