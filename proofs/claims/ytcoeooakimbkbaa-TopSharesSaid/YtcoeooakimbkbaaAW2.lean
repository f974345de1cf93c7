/- within; the closure that compares places. -/
import Derived.Test.YtcoeooakimbkbaaAW1
namespace Go.Proofs.Ytcoeooakimbkbaa
open Go.RowKit Go
open Go.Sort (grow grow_empty grow_grow alloc_eq_grow heap_grow_old)
set_option linter.unusedVariables false
set_option linter.unusedSimpArgs false

theorem Rd.new {w : World} {cs : Array Value} {t : TypeId} {n s g : Nat} (hg : g = w.heap.size) (h : cs.size = n * s) : Rd (w.alloc (.cells cs t)) (w.alloc (.cells cs t)).heap.size s (some ⟨g, 0, none⟩) n cs.toList := by
  subst hg; exact Rd.fresh w cs t n s h
theorem within_yes (z lo hi : Int) (w : World) (h : lo ≤ z ∧ z ≤ hi) : Calls Try.prog 24 #[.int .i64 z, .int .i64 lo, .int .i64 hi] w fun e w' => e = .returned (.bool true) ∧ w = w' := by
  obtain ⟨h1, h2⟩ := h
  go_enter Try.func24, Try.ntmps24
  go_wp2_with fail
  go_ret
  exact ⟨rfl, rfl⟩
theorem within_no (z lo hi : Int) (w : World) (h : ¬ (lo ≤ z ∧ z ≤ hi)) : Calls Try.prog 24 #[.int .i64 z, .int .i64 lo, .int .i64 hi] w fun e w' => e = .returned (.bool false) ∧ w = w' := by
  by_cases h1 : lo ≤ z
  · have h2 : hi < z := by omega
    clear h
    go_enter Try.func24, Try.ntmps24
    go_wp2_with fail
    go_ret
    exact ⟨by first | rfl | (simp; omega), rfl⟩
  · have h2 : z < lo := by omega
    clear h h1
    go_enter Try.func24, Try.ntmps24
    go_wp2_with fail
    go_ret
    exact ⟨by first | rfl | (simp; omega), rfl⟩
theorem within64_yes (z lo hi : Int) (w : World) (h : lo ≤ z ∧ z ≤ hi) : Calls Try.prog 14 #[.int .i64 z, .int .i64 lo, .int .i64 hi] w fun e w' => e = .returned (.bool true) ∧ w = w' := by
  obtain ⟨h1, h2⟩ := h
  go_enter Try.func14, Try.ntmps14
  go_wp2_with fail
  go_ret
  exact ⟨rfl, rfl⟩
theorem within64_no (z lo hi : Int) (w : World) (h : ¬ (lo ≤ z ∧ z ≤ hi)) : Calls Try.prog 14 #[.int .i64 z, .int .i64 lo, .int .i64 hi] w fun e w' => e = .returned (.bool false) ∧ w = w' := by
  by_cases h1 : lo ≤ z
  · have h2 : hi < z := by omega
    clear h
    go_enter Try.func14, Try.ntmps14
    go_wp2_with fail
    go_ret
    exact ⟨by first | rfl | (simp; omega), rfl⟩
  · have h2 : z < lo := by omega
    clear h h1
    go_enter Try.func14, Try.ntmps14
    go_wp2_with fail
    go_ret
    exact ⟨by first | rfl | (simp; omega), rfl⟩

set_option maxHeartbeats 1600000 in
theorem clo_any (gb B n : Nat) (A : Option Addr) (its : List Dq) (c : Nat) (i k : Nat) (w : World) (hb : w.cell? ⟨gb, 0, none⟩ = some (.slice A n c)) (hr : Rd w B 4 A n (itCs its)) (hn : n ≤ 1000000) (hi : i < its.length) (hk : k < its.length) :
    Calls Try.prog 26 #[.int .i64 i, .int .i64 k, .pointer (some ⟨gb, 0, none⟩)] w fun e w' => e = .returned (.int .i64 (ordI its[i] its[k])) ∧ Lays w w' := by
  have hl : its.length = n := by have := hr.1; rw [itCs_len] at this; omega
  obtain ⟨b, off, rfl, hB, x0, x1, x2, x3⟩ := hr.it hi
  obtain ⟨y0, y1, y2, y3⟩ := hr.it2 hk
  clear hr
  have i1 : (0 : Int) ≤ (i : Int) := by omega
  have i2 : (i : Int) < (n : Int) := by omega
  have k1 : (0 : Int) ≤ (k : Int) := by omega
  have k2 : (k : Int) < (n : Int) := by omega
  clear hl
  have hgbl := World.block_lt_of_cell? w _ hb
  have hbl := World.block_lt_of_cell? w _ x0
  generalize its[i] = a at *
  generalize its[k] = d at *
  go_enter Try.func26, Try.ntmps26
  go_wp2_with fail
  go_region_held3 (fun w' => w'.cell? ⟨gb, 0, none⟩ = some (.slice (some ⟨b, off, none⟩) n c) ∧ w'.cell? ⟨b, off + i * 4, none⟩ = some (.int .i64 a.due) ∧ w'.cell? ⟨b, off + i * 4 + 1, none⟩ = some (.int .i64 a.kind) ∧ w'.cell? ⟨b, off + i * 4 + 2, none⟩ = some (.int .i64 a.per) ∧ w'.cell? ⟨b, off + i * 4 + 3, none⟩ = some (.int .i64 a.opn) ∧
      w'.cell? ⟨b, off + k * 4, none⟩ = some (.int .i64 d.due) ∧ w'.cell? ⟨b, off + k * 4 + 1, none⟩ = some (.int .i64 d.kind) ∧ w'.cell? ⟨b, off + k * 4 + 2, none⟩ = some (.int .i64 d.per) ∧ w'.cell? ⟨b, off + k * 4 + 3, none⟩ = some (.int .i64 d.opn))
    ((first | (with_reducible exact ⟨hb, x0, x1, x2, x3, y0, y1, y2, y3⟩) | exact ⟨hb, x0, x1, x2, x3, y0, y1, y2, y3⟩ | exact ⟨(hcB _ hgbl).trans hb, (hcB _ hbl).trans x0, (hcB _ hbl).trans x1, (hcB _ hbl).trans x2, (hcB _ hbl).trans x3, (hcB _ hbl).trans y0, (hcB _ hbl).trans y1, (hcB _ hbl).trans y2, (hcB _ hbl).trans y3⟩))
    ((go_at_call 27; refine (order_any a d _).mono ?_; rintro e w2 ⟨rfl, hw2⟩; have hcB := fun (p : Addr) (hp : p.block < w.heap.size) => hw2.below.cell hp; have HW2 := Lib.hid hw2; clear hw2))
  all_goals go_wp2_with fail
  all_goals go_ret
  all_goals exact ⟨rfl, (Lays.refl _).drew.trans HW2.out⟩
end Go.Proofs.Ytcoeooakimbkbaa
