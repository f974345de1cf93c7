/- num's small functions. -/
import Derived.Test.YtilcgpaefkapaaaProg
import Derived.Test.YtilcgpaefkapaaaR
namespace Go.Proofs.Ytilcgpaefkapaaa
open Go.RowKit
set_option linter.unusedVariables false
set_option linter.unusedSimpArgs false

theorem amt_yes {z : Int} (h : amt z = true) : -4611686018427387904 ≤ z ∧ z ≤ 4611686018427387904 := by simpa [amt] using h
theorem amt_no {z : Int} (h : ¬ amt z = true) : z < -4611686018427387904 ∨ 4611686018427387904 < z := by
  have : ¬ (-4611686018427387904 ≤ z ∧ z ≤ 4611686018427387904) := by simpa [amt] using h
  omega
theorem all_snoc {α : Type} (p : α → Bool) (zs : List α) (k : Nat) (h : k < zs.length) : (zs.take (k + 1)).all p = ((zs.take k).all p && p zs[k]) := by
  rw [List.take_succ_eq_append_getElem h, List.all_append, List.all_cons, List.all_nil, Bool.and_true]
theorem all_no {α : Type} (p : α → Bool) (zs : List α) (k : Nat) (h : k < zs.length) (hn : ¬ p zs[k] = true) : zs.all p = false := by
  rw [Bool.eq_false_iff]; intro h'; rw [List.all_eq_true] at h'; exact hn (h' _ (List.getElem_mem h))

theorem is_any (A : Option Addr) (zs : List Int) (c : Nat) (w : World) (hr : Rd w w.heap.size 1 A zs.length (ints zs)) (hm : zs.length ≤ maxLen) :
    Calls Try.prog 47 #[.slice A zs.length c] w fun e w' => e = .returned (.bool (zs.all amt)) ∧ w = w' := by
  unfold maxLen at hm
  go_enter Try.func47, Try.ntmps47
  go_wp2
  go_loop [7] (fun i => ∃ k : Nat, k ≤ zs.length ∧ i = .int .i64 k ∧ (zs.take k).all amt = true) (fun i => zs.length - (intOf i).toNat)
  case atStart => exact ⟨0, Nat.zero_le _, rfl, rfl⟩
  case round =>
    obtain ⟨k, hk, rfl, hall⟩ := hrel
    have HA := Lib.hid hall; clear hall
    by_cases hlt : k < zs.length
    · obtain ⟨b, off, rfl, hb, hc⟩ := hr.2 (by omega)
      have hcell := (hc k (by omega)).trans (ints_at zs k hlt)
      clear hc
      by_cases ha : amt zs[k] = true
      · have hb := amt_yes ha
        have HX := Lib.hid ha; clear ha
        go_wp2
        exact ⟨⟨k + 1, by omega, by go_num, by rw [all_snoc _ _ _ hlt, HA.out, HX.out]; rfl⟩, by simp [intOf]; omega⟩
      · have hb := amt_no ha
        have HX := Lib.hid (all_no amt zs k hlt ha); clear ha
        go_wp2
        all_goals (go_ret; exact ⟨ret_bool HX.out.symm, rfl⟩)
    · go_wp2
      go_ret
      exact ⟨ret_bool (by rw [← HA.out, List.take_of_length_le (by omega)]), rfl⟩

theorem below_new (w : World) (o : Obj) : Below w.heap.size w (w.alloc o) := (Below.refl _ _).alloc (Nat.le_refl _) o
theorem is1 (a : Int) (w : World) : Calls Try.prog 47 #[.slice (some ⟨w.heap.size, 0, none⟩) 1 1] (w.alloc (.cells #[.int .i64 a] 2)) fun e w' => e = .returned (.bool (amt a)) ∧ w.alloc (.cells #[.int .i64 a] 2) = w' :=
  (is_any (some ⟨w.heap.size, 0, none⟩) [a] 1 _ (Rd.fresh w #[.int .i64 a] 2 1 1 rfl) (by simp [maxLen])).mono fun _ _ ⟨h, g⟩ => ⟨by rw [h]; simp, g⟩
theorem is2 (a b : Int) (w : World) : Calls Try.prog 47 #[.slice (some ⟨w.heap.size, 0, none⟩) 2 2] (w.alloc (.cells #[.int .i64 a, .int .i64 b] 2)) fun e w' => e = .returned (.bool (amt a && amt b)) ∧ w.alloc (.cells #[.int .i64 a, .int .i64 b] 2) = w' :=
  (is_any (some ⟨w.heap.size, 0, none⟩) [a, b] 2 _ (Rd.fresh w #[.int .i64 a, .int .i64 b] 2 2 1 rfl) (by simp [maxLen])).mono fun _ _ ⟨h, g⟩ => ⟨by rw [h]; simp, g⟩
theorem is3 (a b c : Int) (w : World) : Calls Try.prog 47 #[.slice (some ⟨w.heap.size, 0, none⟩) 3 3] (w.alloc (.cells #[.int .i64 a, .int .i64 b, .int .i64 c] 2)) fun e w' => e = .returned (.bool (amt a && (amt b && amt c))) ∧ w.alloc (.cells #[.int .i64 a, .int .i64 b, .int .i64 c] 2) = w' :=
  (is_any (some ⟨w.heap.size, 0, none⟩) [a, b, c] 3 _ (Rd.fresh w #[.int .i64 a, .int .i64 b, .int .i64 c] 2 3 1 rfl) (by simp [maxLen])).mono fun _ _ ⟨h, g⟩ => ⟨by rw [h]; simp, g⟩

theorem told_yes {a : Int} (h : amt a = true) : told a = (a, 0) := by simp [told, h]
theorem told_no {a : Int} (h : ¬ amt a = true) : told a = (0, 2) := by simp [told, h]
theorem ret_pr {a b : Int} {p : Int × Int} (h : p = (a, b)) : Ending.returned (.tuple #[.int .i64 a, .int .i64 b]) = .returned (pr p) := by rw [h]

def addS (a b : Int) : Int × Int := if amt a && amt b then told (a + b) else (0, 1)
theorem add_no {a b : Int} (h : ¬ (amt a && amt b) = true) : addS a b = (0, 1) := by simp [addS, h]
theorem add_over {a b : Int} (h : (amt a && amt b) = true) (g : a + b < -4611686018427387904 ∨ 4611686018427387904 < a + b) : addS a b = (0, 2) := by
  unfold addS; rw [if_pos h]; exact told_no (by simp [amt]; omega)
theorem add_yes {a b : Int} (h : (amt a && amt b) = true) (g : -4611686018427387904 ≤ a + b ∧ a + b ≤ 4611686018427387904) : addS a b = (a + b, 0) := by
  unfold addS; rw [if_pos h]; exact told_yes (by simp [amt]; omega)
def subS (a b : Int) : Int × Int := if amt a && amt b then told (a - b) else (0, 1)
theorem sub_no {a b : Int} (h : ¬ (amt a && amt b) = true) : subS a b = (0, 1) := by simp [subS, h]
theorem sub_yes {a b : Int} (h : (amt a && amt b) = true) : subS a b = addS a (-b) := by
  have h1 : -4611686018427387904 ≤ b ∧ b ≤ 4611686018427387904 := amt_yes (by simp at h; exact h.2)
  unfold subS addS; rw [if_pos h, if_pos]; rfl
  simp at h; simp [h.1]; simp [amt]; omega
end Go.Proofs.Ytilcgpaefkapaaa
