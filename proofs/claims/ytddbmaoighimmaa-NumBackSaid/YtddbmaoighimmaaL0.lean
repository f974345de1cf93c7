/- awake; what comes in as a row of numbers. -/
import Derived.Test.YtddbmaoighimmaaA2
import Derived.OpenShut
namespace Go.Proofs.Ytddbmaoighimmaa
open Go.RowKit Go
set_option linter.unusedVariables false
set_option linter.unusedSimpArgs false

theorem awake_any (w : World) : Calls Try.prog 9 #[] w fun e w' => e = .returned (.bool true) ∧ Below w.heap.size w w' := by
  go_enter Try.func9, Try.ntmps9
  go_wp2_with fail
  refine (add_any 2 3 w).mono ?_; rintro e w1 ⟨rfl, hw1⟩; obtain ⟨hc1, hf1⟩ := bcell hw1; have hz1 := hw1.size; (try simp only [World.size_alloc, World.size_setCell, World.size_drew, size_drewN, Nat.add_one_le_iff] at hz1); (try have hy1 : w.heap.size < w1.heap.size := by omega); (try have hx1 : w.heap.size + 1 < w1.heap.size := by omega); have HW1 := Lib.hid hw1; clear hw1
  have e1 : (addS 2 3).1 = 5 := by decide
  have e2 : (addS 2 3).2 = 0 := by decide
  rw [pr, e1, e2]
  clear e1 e2
  go_wp2_with fail
  go_ret
  exact ⟨rfl, (by repeat' (first | (with_reducible exact Below.refl _ _) | (with_reducible refine Below.alloc ?_ ?_ _) | (with_reducible refine below_drewN ?_ _) | (with_reducible refine Below.drew ?_) | (with_reducible refine Below.setCell ?_ ?_ _) | (with_reducible refine Below.trans ?_ (Below.mono HW0.out ?_)) | (with_reducible refine Below.trans ?_ (Below.mono HW1.out ?_)) | (with_reducible refine Below.trans ?_ (Below.mono HW2.out ?_)) | (with_reducible refine Below.trans ?_ (Below.mono HW3.out ?_)) | (with_reducible refine Below.trans ?_ (Below.mono HW4.out ?_)) | (with_reducible refine Below.trans ?_ (Below.mono HW5.out ?_)) | (with_reducible refine Below.trans ?_ (Below.mono HW6.out ?_)) | (with_reducible refine Below.trans ?_ (Below.mono HW7.out ?_)) | (with_reducible exact Nat.le_refl _) | omega | (simp only [World.size_alloc, World.size_setCell, World.size_drew, size_drewN]; omega) | (simp; done) | (simp; omega)))⟩

theorem sum_n (A : Option Addr) (n c : Nat) (zs : List Int) (w : World) (hr : Rd w w.heap.size 1 A n (ints zs)) (hm : n ≤ 100002) :
    Calls Try.prog 10 #[.slice A n c] w fun e w' => e = .returned (pr (sumS zs)) ∧ Below w.heap.size w w' := by
  have h : zs.length = n := by have := hr.len; simpa [ints] using this
  subst h; exact sum_any A zs c w hr hm

/-- What the shell says of a slice of integers that came in. -/
theorem Rd.of_row {w : World} {a : Option Addr} {len cap : Nat} {zs : List Int}
    (h : (a = none ∧ len = 0 ∧ cap = 0 ∧ zs = []) ∨ ∃ x, a = some x ∧ len ≤ cap ∧ cap ≤ maxLen ∧ zs.length = cap ∧ (∀ i, i < zs.length → w.cell? (x.add i) = some (.int .i64 (zs.getD i 0))) ∧ ∀ n ∈ zs, (Lit.int .i64 n).wf = true) :
    ∃ l : List Int, l.length = len ∧ len ≤ maxLen ∧ Rd w w.heap.size 1 a l.length (ints l) ∧ ∀ z ∈ l, -9223372036854775808 ≤ z ∧ z ≤ 9223372036854775807 := by
  rcases h with ⟨rfl, rfl, rfl, rfl⟩ | ⟨x, rfl, hl, hm, hz, hc, hw⟩
  · exact ⟨[], rfl, by simp, ⟨rfl, fun h => absurd h (by simp)⟩, by simp⟩
  · refine ⟨zs.take len, by simp; omega, by omega, ⟨by simp [ints], fun h0 => ?_⟩, fun z hzz => ?_⟩
    · have hlen : (zs.take len).length = len := by simp; omega
      rw [hlen] at h0 ⊢
      have hx0 := hc 0 (by omega)
      have hx : x.add 0 = x := by simp [Addr.add]
      rw [hx] at hx0
      have hb := World.block_lt_of_cell? w _ hx0
      have hs : x.spot = none := by
        unfold World.cell? at hx0
        split at hx0
        · by_cases h : x.spot.isSome = true
          · rw [if_pos h] at hx0; cases hx0
          · simpa using h
        · cases hx0
      refine ⟨x.block, x.off, ?_, hb, fun j hj => ?_⟩
      · cases x; simp at hs; subst hs; rfl
      · have hcj := hc j (by omega)
        have he : x.add j = ⟨x.block, x.off + j, none⟩ := by
          unfold Addr.add; split
          · rename_i h; subst h; cases x; simp at hs; subst hs; rfl
          · rfl
        rw [he] at hcj
        rw [hcj, ints_at _ _ (by rw [hlen]; omega)]
        simp [List.getD, show j < zs.length by omega]
    · have h1 := hw z (List.mem_of_mem_take hzz)
      have := bounds_i64 h1
      omega
end Go.Proofs.Ytddbmaoighimmaa
