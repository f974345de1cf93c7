/- awake; are two lists of numbers the same? -/
import Derived.Test.YtcojckgmmklffaaAW5
import Derived.Test.YtcojckgmmklffaaAF
import Derived.Test.YtcojckgmmklffaaR2
namespace Go.Proofs.Ytcojckgmmklffaa
open Go.RowKit Go
set_option linter.unusedVariables false
set_option linter.unusedSimpArgs false

theorem pay_n (A : Option Addr) (its : List Dq) (a : Int) (n c : Nat) (w : World) (hn : its.length = n) (hr : Rd w w.heap.size 4 A n (itCs its)) (hm : n ≤ maxLen) :
    Calls Try.prog 15 #[.slice A n c, .int .i64 a] w (PayOf its a w) := by
  subst hn; exact pay_any A its a c w hr hm
def awIts : List Dq := [⟨5, 2, 1, 10⟩, ⟨5, 0, 1, 3⟩, ⟨4, 1, 1, 2⟩]
theorem aw_e : payE awIts 6 = 0 := by decide
theorem aw_left : leftI awIts 6 = 0 := by decide
theorem aw_pay : payL awIts 6 = [1, 3, 2] := by decide
theorem aw_len : awIts.length = 3 := rfl
set_option maxHeartbeats 1600000 in
theorem awake_any (w : World) : Calls Try.prog 9 #[] w fun e w' => e = .returned (.bool true) ∧ Below w.heap.size w w' := by
  have hc : Rd (w.alloc (.cells #[.int .i64 5, .int .i64 2, .int .i64 1, .int .i64 10, .int .i64 5, .int .i64 0, .int .i64 1, .int .i64 3, .int .i64 4, .int .i64 1, .int .i64 1, .int .i64 2] 37)) (w.alloc (.cells #[.int .i64 5, .int .i64 2, .int .i64 1, .int .i64 10, .int .i64 5, .int .i64 0, .int .i64 1, .int .i64 3, .int .i64 4, .int .i64 1, .int .i64 1, .int .i64 2] 37)).heap.size 4 (some ⟨w.heap.size, 0, none⟩) 3 (itCs awIts) := Rd.fresh w #[.int .i64 5, .int .i64 2, .int .i64 1, .int .i64 10, .int .i64 5, .int .i64 0, .int .i64 1, .int .i64 3, .int .i64 4, .int .i64 1, .int .i64 1, .int .i64 2] 37 3 4 rfl
  have HP := Lib.hid (pay_n (some ⟨w.heap.size, 0, none⟩) awIts 6 3 3 _ rfl hc (by unfold maxLen; omega))
  clear hc
  go_enter Try.func9, Try.ntmps9
  go_wp2_with fail
  refine HP.out.mono ?_
  intro e w1 h
  obtain ⟨hb, ⟨hne, _⟩ | ⟨he, A', c', rfl, hrd, hcc⟩⟩ := h
  · exact absurd aw_e hne
  · have HB : Hid (Below w.heap.size w w1) := Lib.hid ((below_new _ _).trans (hb.mono (by simp)))
    rw [aw_pay] at hrd
    rw [aw_left, aw_len]
    rw [aw_len] at hrd
    clear hb he hcc
    obtain ⟨b, off, rfl, hbl, c0⟩ := hrd.num (k := 0) (by decide)
    have c1 := hrd.num2 (k := 1) (by decide)
    have c2 := hrd.num2 (k := 2) (by decide)
    clear hrd
    simp only [List.getElem_cons_zero, List.getElem_cons_succ, Nat.add_zero] at c0 c1 c2
    go_wp2_with fail
    go_ret
    exact ⟨ret_bool (by simp), HB.out⟩

set_option maxHeartbeats 1600000 in
theorem same_any (A B : Option Addr) (xs ys : List Int) (n m c c' : Nat) (w : World) (hx : Rd w w.heap.size 1 A n (ints xs)) (hy : Rd w w.heap.size 1 B m (ints ys)) (hn : n ≤ 1000000) :
    Calls Try.prog 17 #[.slice A n c, .slice B m c'] w fun e w' => e = .returned (.bool (decide (xs = ys))) ∧ Below w.heap.size w w' := by
  have ex : xs.length = n := by have := hx.1; rw [ints_len] at this; omega
  have ey : ys.length = m := by have := hy.1; rw [ints_len] at this; omega
  have HX := Lib.hid hx; have HY := Lib.hid hy; have EX := Lib.hid ex; have EY := Lib.hid ey
  clear hx hy ex ey
  by_cases hnm : n = m
  · subst hnm
    go_enter Try.func17, Try.ntmps17
    go_wp2_with fail
    go_loopg [5] n (fun gh vi wr => ∃ k : Nat, gh = n - k ∧ k ≤ n ∧ vi = .int .i64 k ∧ xs.take k = ys.take k ∧ Below w.heap.size w wr)
    case atStart => exact ⟨0, rfl, by omega, rfl, rfl, Below.refl _ _⟩
    case round =>
      obtain ⟨k, hgk, hk, rfl, ht, hb⟩ := hrel
      have HG := Lib.hid hgk; have HT := Lib.hid ht; have HB := Lib.hid hb
      clear hgk ht hb
      by_cases hlt : k < n
      · have h1 : k < xs.length := by have := EX.out; omega
        have h2 : k < ys.length := by have := EY.out; omega
        obtain ⟨b1, o1, rfl, hb1, x0⟩ := (HX.out.below HB.out).num h1
        obtain ⟨b2, o2, rfl, hb2, y0⟩ := (HY.out.below HB.out).num h2
        have i1 : (0 : Int) ≤ (k : Int) := by omega
        have i2 : (k : Int) < (n : Int) := by omega
        have ht1 := List.take_succ_eq_append_getElem h1
        have ht2 := List.take_succ_eq_append_getElem h2
        have HT1 := Lib.hid ht1; have HT2 := Lib.hid ht2
        have HGX : Hid (xs = ys → xs[k] = ys[k]) := Lib.hid (fun e => by subst e; rfl)
        clear ht1 ht2
        generalize xs[k] = x at *
        generalize ys[k] = y at *
        by_cases hxy : x = y
        · have hq : (x != y) = false := by simp [hxy]
          have HTT : Hid (xs.take (k + 1) = ys.take (k + 1)) := Lib.hid (by rw [HT1.out, HT2.out, HT.out, hxy])
          clear hxy
          go_wp2_with fail
          go_quiet (fail)
          go_wp2_with fail
          go_roundg (n - (k + 1))
          case measure => have := HG.out; omega
          case rel => exact ⟨k + 1, rfl, by omega, by go_num, HTT.out, below_drewN HB.out _⟩
        · have hq : (x != y) = true := by simp [hxy]
          have HF : Hid (decide (xs = ys) = false) := Lib.hid (decide_eq_false (fun e => hxy (HGX.out e)))
          clear hxy
          go_wp2_with fail
          go_quiet (fail)
          go_wp2_with fail
          go_ret
          exact ⟨ret_bool (by rw [HF.out]), below_drewN HB.out _⟩
      · have HF : Hid (decide (xs = ys) = true) := Lib.hid (decide_eq_true (by have := HT.out; rwa [List.take_of_length_le (by have := EX.out; omega), List.take_of_length_le (by have := EY.out; omega)] at this))
        go_wp2_with fail
        go_ret
        exact ⟨ret_bool (by rw [HF.out]), HB.out⟩
  · have HF : Hid (decide (xs = ys) = false) := Lib.hid (decide_eq_false (fun e => hnm (by have := EX.out; have := EY.out; subst e; omega)))
    have hq : ((n : Int) != (m : Int)) = true := by simp; omega
    clear hnm
    go_enter Try.func17, Try.ntmps17
    go_wp2_with fail
    go_ret
    exact ⟨ret_bool (by rw [HF.out]), Below.refl _ _⟩
end Go.Proofs.Ytcojckgmmklffaa
