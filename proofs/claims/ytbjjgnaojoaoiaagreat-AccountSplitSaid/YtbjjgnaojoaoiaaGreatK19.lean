/- BinarySearchFunc over periods. -/
import Derived.Test.YtbjjgnaojoaoiaaGreatK15
import Derived.Test.YtbjjgnaojoaoiaaGreatK17
namespace Go.Proofs.YtbjjgnaojoaoiaaGreat
open Go.RowKit Go
set_option linter.unusedVariables false
set_option linter.unusedSimpArgs false

/-- How many periods stand ahead of a number. -/
def aheadP (t : Int) (ps : List Per) : Nat := ps.countP fun p => decide (p.ret.per < t)
theorem aheadP_is {t : Int} {ps : List Per} {i : Nat} (hi : i ≤ ps.length) (h1 : ∀ k (h : k < ps.length), k < i → ps[k].ret.per < t) (h2 : ∀ k (h : k < ps.length), i ≤ k → t ≤ ps[k].ret.per) : aheadP t ps = i := by
  unfold aheadP
  have e1 : (ps.take i).countP (fun p => decide (p.ret.per < t)) = i := by
    have : (ps.take i).countP (fun p => decide (p.ret.per < t)) = (ps.take i).length := List.countP_eq_length.2 fun p hp => by
      obtain ⟨k, hk, rfl⟩ := List.mem_iff_getElem.1 hp
      simp only [List.length_take] at hk
      rw [List.getElem_take]
      simpa using h1 k (by omega) (by omega)
    rw [this, List.length_take]; omega
  have e2 : (ps.drop i).countP (fun p => decide (p.ret.per < t)) = 0 := List.countP_eq_zero.2 fun p hp => by
    obtain ⟨k, hk, rfl⟩ := List.mem_iff_getElem.1 hp
    simp only [List.length_drop] at hk
    rw [List.getElem_drop]
    have := h2 (i + k) (by omega) (by omega)
    simp; omega
  rw [← List.take_append_drop i ps, List.countP_append, e1]
  simpa using e2
theorem cmpPer_any (p : Per) (n : Int) (w : World) (h : -9223372036854775808 ≤ p.ret.per - n ∧ p.ret.per - n ≤ 9223372036854775807) :
    Calls Tryz.prog 41 #[perV p, .int .i64 n] w fun e w' => e = .returned (.int .i64 (p.ret.per - n)) ∧ Below w.heap.size w w' := by
  have hw := IntWalk.i64_in _ h
  go_enter Tryz.func41, Tryz.ntmps41
  go_wp2_with fail
  go_ret
  exact ⟨by first | rfl | (rw [hw]; rfl), (Below.refl _ _).alloc (Nat.le_refl _) _⟩
set_option maxHeartbeats 3200000 in
set_option maxRecDepth 100000 in
theorem bsPer_any (A : Option Addr) (N c : Nat) (ps : List Per) (t : Int) (w : World) (hl : ps.length = N) (hr : Rd w w.heap.size 11 A N (perCs ps)) (hN : N ≤ 1000000) (hri : RiseP ps) (hp : ∀ p ∈ ps, 0 ≤ p.ret.per ∧ p.ret.per ≤ 1000000) (ht : 0 ≤ t ∧ t ≤ 1000000) :
    Calls Tryz.prog 40 #[.slice A N c, .int .i64 t, .func (.func 41) #[] #[]] w fun e w' => (∃ b, e = .returned (.tuple #[.int .i64 (aheadP t ps), .bool b])) ∧ Below w.heap.size w w' := by
  have HL := Lib.hid hl; have HR := Lib.hid hr; have HP := Lib.hid hp; have HRI := Lib.hid hri
  clear hl hr hp hri
  go_enter Tryz.func40, Tryz.ntmps40
  go_wp2_with fail
  go_loopg [9, 10] N (fun gh v9 v10 wr => ∃ i j : Nat, gh = j - i ∧ i ≤ j ∧ j ≤ N ∧ v9 = .int .i64 i ∧ v10 = .int .i64 j ∧ (∀ k (h : k < ps.length), k < i → ps[k].ret.per < t) ∧ (∀ k (h : k < ps.length), j ≤ k → t ≤ ps[k].ret.per) ∧ Below w.heap.size w wr)
  case atStart => exact ⟨0, N, by omega, by omega, by omega, rfl, rfl, fun k h h2 => by omega, fun k h h2 => by have := HL.out; omega, Below.refl _ _⟩
  case round =>
    obtain ⟨i, j, hg, hij, hjN, rfl, rfl, hlo, hhi, hbr⟩ := hrel
    have HG := Lib.hid hg; have HLO := Lib.hid hlo; have HHI := Lib.hid hhi; have HB := Lib.hid hbr
    clear hg hlo hhi
    by_cases hlt : i < j
    · have hm1 : (i + j) / 2 < N := by omega
      have hl1 : (i + j) / 2 < ps.length := by rw [HL.out]; exact hm1
      obtain ⟨b, off, rfl, hb, c0, c1, c2, c3, c4, c5, c6, c7, c8, c9, c10⟩ := (HR.out.below hbr).per hl1
      have hbd := HP.out _ (List.getElem_mem hl1)
      have HC := Lib.hid (fun wx => cmpPer_any ps[(i + j) / 2] t wx (by omega))
      have u1 : IntKind.i64.wrap ((i : Int) + (j : Int)) = (i : Int) + (j : Int) := IntWalk.i64_in _ (by omega)
      have u2 : IntKind.u64.wrap ((i : Int) + (j : Int)) = (i : Int) + (j : Int) := by rw [IntKind.wrap_u64]; omega
      clear hbr
      go_wp2_with fail
      refine (HC.out _).mono ?_; rintro e w1 ⟨rfl, hw1⟩
      have HB1 := Lib.hid (HB.out.trans (hw1.mono HB.out.size))
      have b1 : i ≤ (i + j) / 2 := by omega
      have b2 : (i + j) / 2 < j := by omega
      by_cases hx : ps[(i + j) / 2].ret.per < t
      · have hx' : decide (ps[(i + j) / 2].ret.per - t < 0) = true := by simp; omega
        have HX : Hid (∀ k (h : k < ps.length), k < (i + j) / 2 + 1 → ps[k].ret.per < t) := Lib.hid (fun k h hk => by
          rcases Nat.lt_or_ge k ((i + j) / 2) with h3 | h3
          · have := List.pairwise_iff_getElem.1 HRI.out k _ h hl1 h3; omega
          · have : k = (i + j) / 2 := by omega
            subst this; exact hx)
        have w3 : IntKind.i64.wrap (((i : Int) + (j : Int)) / 2 + 1) = (((i + j) / 2 + 1 : Nat) : Int) := by rw [IntWalk.i64_in _ (by omega)]; omega
        clear hw1 hx c0 c1 c2 c3 c4 c5 c6 c7 c8 c9 c10 hbd HC
        generalize ps[(i + j) / 2].ret.per = xp at *
        go_wp2_with fail
        go_roundg (j - ((i + j) / 2 + 1))
        case measure => have := HG.out; omega
        case rel => exact ⟨(i + j) / 2 + 1, j, rfl, by omega, hjN, by first | go_num | (congr 1; omega), rfl, HX.out, HHI.out, HB1.out⟩
      · have hx' : decide (ps[(i + j) / 2].ret.per - t < 0) = false := by simp; omega
        have HX : Hid (∀ k (h : k < ps.length), (i + j) / 2 ≤ k → t ≤ ps[k].ret.per) := Lib.hid (fun k h hk => by
          rcases Nat.lt_or_ge ((i + j) / 2) k with h3 | h3
          · have := List.pairwise_iff_getElem.1 HRI.out _ k hl1 h h3; omega
          · have : k = (i + j) / 2 := by omega
            subst this; omega)
        clear hw1 hx c0 c1 c2 c3 c4 c5 c6 c7 c8 c9 c10 hbd HC
        generalize ps[(i + j) / 2].ret.per = xp at *
        go_wp2_with fail
        go_roundg ((i + j) / 2 - i)
        case measure => have := HG.out; omega
        case rel => exact ⟨i, (i + j) / 2, rfl, by omega, by omega, rfl, by first | go_num | (congr 1; omega), HLO.out, HX.out, HB1.out⟩
    · have hji : j = i := by omega
      subst hji
      have HE : Hid (aheadP t ps = j) := Lib.hid (aheadP_is (by have := HL.out; omega) HLO.out HHI.out)
      by_cases hjn : j < N
      · have hl1 : j < ps.length := by rw [HL.out]; exact hjn
        obtain ⟨b, off, rfl, hb, c0, c1, c2, c3, c4, c5, c6, c7, c8, c9, c10⟩ := (HR.out.below hbr).per hl1
        have hbd := HP.out _ (List.getElem_mem hl1)
        have HC := Lib.hid (fun wx => cmpPer_any ps[j] t wx (by omega))
        have i1 : (0 : Int) ≤ (j : Int) := by omega
        have i2 : (j : Int) < (N : Int) := by omega
        clear hbr
        go_wp2_with fail
        refine (HC.out _).mono ?_; rintro e w1 ⟨rfl, hw1⟩
        have HB1 := Lib.hid (HB.out.trans (hw1.mono HB.out.size))
        clear hw1
        go_wp2_with fail
        all_goals go_ret2
        all_goals exact ⟨⟨_, by rw [HE.out]; rfl⟩, HB1.out⟩
      · have hj : j = N := by omega
        subst hj
        clear hbr
        go_wp2_with fail
        all_goals go_ret2
        all_goals exact ⟨⟨_, by rw [HE.out]; rfl⟩, HB.out⟩
end Go.Proofs.YtbjjgnaojoaoiaaGreat
