/- awake; are two lists of numbers the same? -/
import Derived.Test.YtjimahagfkpacaaW1
import Derived.Test.YtjimahagfkpacaaO
namespace Go.Proofs.Ytjimahagfkpacaa
open Go.RowKit Go
set_option linter.unusedVariables false
set_option linter.unusedSimpArgs false

theorem awake_anyW (w : World) : Calls Try.prog 9 #[] w fun e w' => e = .returned (.bool true) ∧ Below w.heap.size w w' := by
  go_enter Try.func9, Try.ntmps9
  go_wp2_with fail
  refine (add_any 2 3 w).mono ?_; rintro e w1 ⟨rfl, hw1⟩; obtain ⟨hc1, hf1⟩ := bcell hw1; have hz1 := hw1.size; (try simp only [World.size_alloc, World.size_setCell, World.size_drew, size_drewN, Nat.add_one_le_iff] at hz1); (try have hy1 : w.heap.size < w1.heap.size := by omega); (try have hx1 : w.heap.size + 1 < w1.heap.size := by omega); have HW1 := Lib.hid hw1; clear hw1
  have e1 : (addS 2 3).1 = 5 := by decide
  have e2 : (addS 2 3).2 = 0 := by decide
  rw [pr, e1, e2]
  clear e1 e2
  go_wp2_with fail
  go_ret
  exact ⟨rfl, (by repeat' (first | (with_reducible exact Below.refl _ _) | (with_reducible refine Below.alloc ?_ ?_ _) | (with_reducible refine below_drewN ?_ _) | (with_reducible refine Below.drew ?_) | (with_reducible refine Below.setCell ?_ ?_ _) | (with_reducible refine Below.trans ?_ (Below.mono HW0.out ?_)) | (with_reducible refine Below.trans ?_ (Below.mono HW1.out ?_)) | (with_reducible refine Below.trans ?_ (Below.mono HW2.out ?_)) | (with_reducible refine Below.trans ?_ (Below.mono HW3.out ?_)) | (with_reducible refine Below.trans ?_ (Below.mono HW4.out ?_)) | (with_reducible refine Below.trans ?_ (Below.mono HW5.out ?_)) | (with_reducible refine Below.trans ?_ (Below.mono HW6.out ?_)) | (with_reducible refine Below.trans ?_ (Below.mono HW7.out ?_)) | (with_reducible exact Nat.le_refl _) | omega | (simp only [World.size_alloc, World.size_setCell, World.size_drew, size_drewN]; omega) | (simp; done) | (simp; omega)))⟩

set_option maxHeartbeats 1600000 in
theorem same_anyW (A B : Option Addr) (xs ys : List Int) (n m c c' : Nat) (w : World) (hx : Rd w w.heap.size 1 A n (ints xs)) (hy : Rd w w.heap.size 1 B m (ints ys)) (hn : n ≤ 1000000) :
    Calls Try.prog 20 #[.slice A n c, .slice B m c'] w fun e w' => e = .returned (.bool (decide (xs = ys))) ∧ Below w.heap.size w w' := by
  have ex : xs.length = n := by have := hx.1; rw [ints_len] at this; omega
  have ey : ys.length = m := by have := hy.1; rw [ints_len] at this; omega
  have HX := Lib.hid hx; have HY := Lib.hid hy; have EX := Lib.hid ex; have EY := Lib.hid ey
  clear hx hy ex ey
  by_cases hnm : n = m
  · subst hnm
    go_enter Try.func20, Try.ntmps20
    go_wp2_with fail
    go_loopg [5] n (fun gh vi wr => ∃ k : Nat, gh = n - k ∧ k ≤ n ∧ vi = .int .i64 k ∧ xs.take k = ys.take k ∧ Below w.heap.size w wr)
    case atStart => exact ⟨0, rfl, by omega, rfl, rfl, Below.refl _ _⟩
    case round =>
      obtain ⟨k, hgk, hk, rfl, ht, hb⟩ := hrel
      have HG := Lib.hid hgk; have HT := Lib.hid ht; have HB := Lib.hid hb
      clear hgk ht hb
      by_cases hlt : k < n
      · have h1 : k < xs.length := by have := EX.out; omega
        have h2 : k < ys.length := by have := EY.out; omega
        obtain ⟨b1, o1, rfl, hb1, x0⟩ := (HX.out.below HB.out).numW h1
        obtain ⟨b2, o2, rfl, hb2, y0⟩ := (HY.out.below HB.out).numW h2
        have i1 : (0 : Int) ≤ (k : Int) := by omega
        have i2 : (k : Int) < (n : Int) := by omega
        have ht1 := List.take_succ_eq_append_getElem h1
        have ht2 := List.take_succ_eq_append_getElem h2
        have HT1 := Lib.hid ht1; have HT2 := Lib.hid ht2
        have HGX : Hid (xs = ys → xs[k] = ys[k]) := Lib.hid (fun e => by subst e; rfl)
        clear ht1 ht2
        generalize xs[k] = x at *
        generalize ys[k] = y at *
        by_cases hxy : x = y
        · have hq : (x != y) = false := by simp [hxy]
          have HTT : Hid (xs.take (k + 1) = ys.take (k + 1)) := Lib.hid (by rw [HT1.out, HT2.out, HT.out, hxy])
          clear hxy
          go_wp2_with fail
          go_quiet (fail)
          go_wp2_with fail
          go_roundg (n - (k + 1))
          case measure => have := HG.out; omega
          case rel => exact ⟨k + 1, rfl, by omega, by go_num, HTT.out, below_drewN HB.out _⟩
        · have hq : (x != y) = true := by simp [hxy]
          have HF : Hid (decide (xs = ys) = false) := Lib.hid (decide_eq_false (fun e => hxy (HGX.out e)))
          clear hxy
          go_wp2_with fail
          go_quiet (fail)
          go_wp2_with fail
          go_ret
          exact ⟨ret_bool (by rw [HF.out]), below_drewN HB.out _⟩
      · have HF : Hid (decide (xs = ys) = true) := Lib.hid (decide_eq_true (by have := HT.out; rwa [List.take_of_length_le (by have := EX.out; omega), List.take_of_length_le (by have := EY.out; omega)] at this))
        go_wp2_with fail
        go_ret
        exact ⟨ret_bool (by rw [HF.out]), HB.out⟩
  · have HF : Hid (decide (xs = ys) = false) := Lib.hid (decide_eq_false (fun e => hnm (by have := EX.out; have := EY.out; subst e; omega)))
    have hq : ((n : Int) != (m : Int)) = true := by simp; omega
    clear hnm
    go_enter Try.func20, Try.ntmps20
    go_wp2_with fail
    go_ret
    exact ⟨ret_bool (by rw [HF.out]), Below.refl _ _⟩
end Go.Proofs.Ytjimahagfkpacaa
