/- Ahead, Same: two records. -/
import Derived.Test.YtfcemlcocdhmfaaG
namespace Go.Proofs.Ytfcemlcocdhmfaa
open Go.RowKit Go
set_option linter.unusedVariables false
set_option linter.unusedSimpArgs false

/-- The value is a record that reads aq r. -/
def IsRc (w : World) (B : Nat) (v : Value) (r : Rc) : Prop := ∃ kv vv, v = .agg #[kv, .int .i64 r.seq, .bool r.del, vv] ∧ Bs w B kv r.key ∧ Bs w B vv r.val

theorem str_l (a : List UInt8) : (strOfNums (nums a)).toList = a := (Lib.strOfNums_toList _).trans (nums_back a)

set_option maxHeartbeats 1600000 in
theorem same_any (a b : Rc) (u v : Value) (B : Nat) (w : World) (ha : IsRc w w.heap.size u a) (hb : IsRc w w.heap.size v b) :
    Calls Try.prog 28 #[u, v] w fun e w' => e = .returned (.bool (decide (a.key = b.key) && decide (a.seq = b.seq) && decide (a.del = b.del) && decide (a.val = b.val))) ∧ Below w.heap.size w w' := by
  obtain ⟨k1, v1, rfl, hk1, hv1⟩ := ha
  obtain ⟨k2, v2, rfl, hk2, hv2⟩ := hb
  obtain ⟨ak, aq, ad, av⟩ := a
  obtain ⟨bk, bq, bd, bv⟩ := b
  simp only at hk1 hk2 hv1 hv2 ⊢
  have go : (aq = bq ∨ (aq == bq) = false) ∧ (ad = bd ∨ (ad == bd) = false) := by
    refine ⟨?_, ?_⟩
    · by_cases h : aq = bq
      · exact .inl h
      · exact .inr (by simpa using h)
    · by_cases h : ad = bd
      · exact .inl h
      · exact .inr (by simpa using h)
  obtain ⟨hs, hd⟩ := go
  rcases hs with rfl | hs <;> rcases hd with rfl | hd
  · have hB : Below w.heap.size w ((w.alloc (.cells #[k1, .int .i64 aq, .bool ad, v1] 40)).alloc (.cells #[k2, .int .i64 aq, .bool ad, v2] 40)) := (by repeat' (first | (with_reducible exact Below.refl _ _) | (with_reducible refine Below.alloc ?_ ?_ _) | (with_reducible refine below_drewN ?_ _) | (with_reducible refine Below.drew ?_) | (with_reducible refine Below.setCell ?_ ?_ _) | (with_reducible refine Below.trans ?_ (Below.mono HW0.out ?_)) | (with_reducible refine Below.trans ?_ (Below.mono HW1.out ?_)) | (with_reducible refine Below.trans ?_ (Below.mono HW2.out ?_)) | (with_reducible refine Below.trans ?_ (Below.mono HW3.out ?_)) | (with_reducible refine Below.trans ?_ (Below.mono HW4.out ?_)) | (with_reducible refine Below.trans ?_ (Below.mono HW5.out ?_)) | (with_reducible refine Below.trans ?_ (Below.mono HW6.out ?_)) | (with_reducible refine Below.trans ?_ (Below.mono HW7.out ?_)) | (with_reducible exact Nat.le_refl _) | omega | (simp only [World.size_alloc, World.size_setCell, World.size_drew, size_drewN]; omega) | (simp; done) | (simp; omega)))
    have e1 := (hk1.below hB).conv
    have e2 := (hk2.below hB).conv
    have e3 := (hv1.below hB).conv
    have e4 := (hv2.below hB).conv
    obtain ⟨A1, c1, rfl, _⟩ := hk1
    obtain ⟨A2, c2, rfl, _⟩ := hk2
    obtain ⟨A3, c3, rfl, _⟩ := hv1
    obtain ⟨A4, c4, rfl, _⟩ := hv2
    clear hB
    go_enter Try.func28, Try.ntmps28
    go_wp2_with fail
    all_goals (try go_ret)
    all_goals clear e1 e2 e3 e4
    all_goals (try simp only [str_l] at *)
    all_goals exact ⟨ret_bool (by simp_all <;> (rw [Bool.eq_iff_iff]; simp)), (by repeat' (first | (with_reducible exact Below.refl _ _) | (with_reducible refine Below.alloc ?_ ?_ _) | (with_reducible refine below_drewN ?_ _) | (with_reducible refine Below.drew ?_) | (with_reducible refine Below.setCell ?_ ?_ _) | (with_reducible refine Below.trans ?_ (Below.mono HW0.out ?_)) | (with_reducible refine Below.trans ?_ (Below.mono HW1.out ?_)) | (with_reducible refine Below.trans ?_ (Below.mono HW2.out ?_)) | (with_reducible refine Below.trans ?_ (Below.mono HW3.out ?_)) | (with_reducible refine Below.trans ?_ (Below.mono HW4.out ?_)) | (with_reducible refine Below.trans ?_ (Below.mono HW5.out ?_)) | (with_reducible refine Below.trans ?_ (Below.mono HW6.out ?_)) | (with_reducible refine Below.trans ?_ (Below.mono HW7.out ?_)) | (with_reducible exact Nat.le_refl _) | omega | (simp only [World.size_alloc, World.size_setCell, World.size_drew, size_drewN]; omega) | (simp; done) | (simp; omega)))⟩
  · have hB : Below w.heap.size w ((w.alloc (.cells #[k1, .int .i64 aq, .bool ad, v1] 40)).alloc (.cells #[k2, .int .i64 aq, .bool bd, v2] 40)) := (by repeat' (first | (with_reducible exact Below.refl _ _) | (with_reducible refine Below.alloc ?_ ?_ _) | (with_reducible refine below_drewN ?_ _) | (with_reducible refine Below.drew ?_) | (with_reducible refine Below.setCell ?_ ?_ _) | (with_reducible refine Below.trans ?_ (Below.mono HW0.out ?_)) | (with_reducible refine Below.trans ?_ (Below.mono HW1.out ?_)) | (with_reducible refine Below.trans ?_ (Below.mono HW2.out ?_)) | (with_reducible refine Below.trans ?_ (Below.mono HW3.out ?_)) | (with_reducible refine Below.trans ?_ (Below.mono HW4.out ?_)) | (with_reducible refine Below.trans ?_ (Below.mono HW5.out ?_)) | (with_reducible refine Below.trans ?_ (Below.mono HW6.out ?_)) | (with_reducible refine Below.trans ?_ (Below.mono HW7.out ?_)) | (with_reducible exact Nat.le_refl _) | omega | (simp only [World.size_alloc, World.size_setCell, World.size_drew, size_drewN]; omega) | (simp; done) | (simp; omega)))
    have e1 := (hk1.below hB).conv
    have e2 := (hk2.below hB).conv
    have e3 := (hv1.below hB).conv
    have e4 := (hv2.below hB).conv
    obtain ⟨A1, c1, rfl, _⟩ := hk1
    obtain ⟨A2, c2, rfl, _⟩ := hk2
    obtain ⟨A3, c3, rfl, _⟩ := hv1
    obtain ⟨A4, c4, rfl, _⟩ := hv2
    clear hB
    go_enter Try.func28, Try.ntmps28
    go_wp2_with fail
    all_goals (try go_ret)
    all_goals clear e1 e2 e3 e4
    all_goals (try simp only [str_l] at *)
    all_goals exact ⟨ret_bool (by simp_all <;> (rw [Bool.eq_iff_iff]; simp)), (by repeat' (first | (with_reducible exact Below.refl _ _) | (with_reducible refine Below.alloc ?_ ?_ _) | (with_reducible refine below_drewN ?_ _) | (with_reducible refine Below.drew ?_) | (with_reducible refine Below.setCell ?_ ?_ _) | (with_reducible refine Below.trans ?_ (Below.mono HW0.out ?_)) | (with_reducible refine Below.trans ?_ (Below.mono HW1.out ?_)) | (with_reducible refine Below.trans ?_ (Below.mono HW2.out ?_)) | (with_reducible refine Below.trans ?_ (Below.mono HW3.out ?_)) | (with_reducible refine Below.trans ?_ (Below.mono HW4.out ?_)) | (with_reducible refine Below.trans ?_ (Below.mono HW5.out ?_)) | (with_reducible refine Below.trans ?_ (Below.mono HW6.out ?_)) | (with_reducible refine Below.trans ?_ (Below.mono HW7.out ?_)) | (with_reducible exact Nat.le_refl _) | omega | (simp only [World.size_alloc, World.size_setCell, World.size_drew, size_drewN]; omega) | (simp; done) | (simp; omega)))⟩
  · have hB : Below w.heap.size w ((w.alloc (.cells #[k1, .int .i64 aq, .bool ad, v1] 40)).alloc (.cells #[k2, .int .i64 bq, .bool ad, v2] 40)) := (by repeat' (first | (with_reducible exact Below.refl _ _) | (with_reducible refine Below.alloc ?_ ?_ _) | (with_reducible refine below_drewN ?_ _) | (with_reducible refine Below.drew ?_) | (with_reducible refine Below.setCell ?_ ?_ _) | (with_reducible refine Below.trans ?_ (Below.mono HW0.out ?_)) | (with_reducible refine Below.trans ?_ (Below.mono HW1.out ?_)) | (with_reducible refine Below.trans ?_ (Below.mono HW2.out ?_)) | (with_reducible refine Below.trans ?_ (Below.mono HW3.out ?_)) | (with_reducible refine Below.trans ?_ (Below.mono HW4.out ?_)) | (with_reducible refine Below.trans ?_ (Below.mono HW5.out ?_)) | (with_reducible refine Below.trans ?_ (Below.mono HW6.out ?_)) | (with_reducible refine Below.trans ?_ (Below.mono HW7.out ?_)) | (with_reducible exact Nat.le_refl _) | omega | (simp only [World.size_alloc, World.size_setCell, World.size_drew, size_drewN]; omega) | (simp; done) | (simp; omega)))
    have e1 := (hk1.below hB).conv
    have e2 := (hk2.below hB).conv
    have e3 := (hv1.below hB).conv
    have e4 := (hv2.below hB).conv
    obtain ⟨A1, c1, rfl, _⟩ := hk1
    obtain ⟨A2, c2, rfl, _⟩ := hk2
    obtain ⟨A3, c3, rfl, _⟩ := hv1
    obtain ⟨A4, c4, rfl, _⟩ := hv2
    clear hB
    go_enter Try.func28, Try.ntmps28
    go_wp2_with fail
    all_goals (try go_ret)
    all_goals clear e1 e2 e3 e4
    all_goals (try simp only [str_l] at *)
    all_goals exact ⟨ret_bool (by simp_all <;> (rw [Bool.eq_iff_iff]; simp)), (by repeat' (first | (with_reducible exact Below.refl _ _) | (with_reducible refine Below.alloc ?_ ?_ _) | (with_reducible refine below_drewN ?_ _) | (with_reducible refine Below.drew ?_) | (with_reducible refine Below.setCell ?_ ?_ _) | (with_reducible refine Below.trans ?_ (Below.mono HW0.out ?_)) | (with_reducible refine Below.trans ?_ (Below.mono HW1.out ?_)) | (with_reducible refine Below.trans ?_ (Below.mono HW2.out ?_)) | (with_reducible refine Below.trans ?_ (Below.mono HW3.out ?_)) | (with_reducible refine Below.trans ?_ (Below.mono HW4.out ?_)) | (with_reducible refine Below.trans ?_ (Below.mono HW5.out ?_)) | (with_reducible refine Below.trans ?_ (Below.mono HW6.out ?_)) | (with_reducible refine Below.trans ?_ (Below.mono HW7.out ?_)) | (with_reducible exact Nat.le_refl _) | omega | (simp only [World.size_alloc, World.size_setCell, World.size_drew, size_drewN]; omega) | (simp; done) | (simp; omega)))⟩
  · have hB : Below w.heap.size w ((w.alloc (.cells #[k1, .int .i64 aq, .bool ad, v1] 40)).alloc (.cells #[k2, .int .i64 bq, .bool bd, v2] 40)) := (by repeat' (first | (with_reducible exact Below.refl _ _) | (with_reducible refine Below.alloc ?_ ?_ _) | (with_reducible refine below_drewN ?_ _) | (with_reducible refine Below.drew ?_) | (with_reducible refine Below.setCell ?_ ?_ _) | (with_reducible refine Below.trans ?_ (Below.mono HW0.out ?_)) | (with_reducible refine Below.trans ?_ (Below.mono HW1.out ?_)) | (with_reducible refine Below.trans ?_ (Below.mono HW2.out ?_)) | (with_reducible refine Below.trans ?_ (Below.mono HW3.out ?_)) | (with_reducible refine Below.trans ?_ (Below.mono HW4.out ?_)) | (with_reducible refine Below.trans ?_ (Below.mono HW5.out ?_)) | (with_reducible refine Below.trans ?_ (Below.mono HW6.out ?_)) | (with_reducible refine Below.trans ?_ (Below.mono HW7.out ?_)) | (with_reducible exact Nat.le_refl _) | omega | (simp only [World.size_alloc, World.size_setCell, World.size_drew, size_drewN]; omega) | (simp; done) | (simp; omega)))
    have e1 := (hk1.below hB).conv
    have e2 := (hk2.below hB).conv
    have e3 := (hv1.below hB).conv
    have e4 := (hv2.below hB).conv
    obtain ⟨A1, c1, rfl, _⟩ := hk1
    obtain ⟨A2, c2, rfl, _⟩ := hk2
    obtain ⟨A3, c3, rfl, _⟩ := hv1
    obtain ⟨A4, c4, rfl, _⟩ := hv2
    clear hB
    go_enter Try.func28, Try.ntmps28
    go_wp2_with fail
    all_goals (try go_ret)
    all_goals clear e1 e2 e3 e4
    all_goals (try simp only [str_l] at *)
    all_goals exact ⟨ret_bool (by simp_all <;> (rw [Bool.eq_iff_iff]; simp)), (by repeat' (first | (with_reducible exact Below.refl _ _) | (with_reducible refine Below.alloc ?_ ?_ _) | (with_reducible refine below_drewN ?_ _) | (with_reducible refine Below.drew ?_) | (with_reducible refine Below.setCell ?_ ?_ _) | (with_reducible refine Below.trans ?_ (Below.mono HW0.out ?_)) | (with_reducible refine Below.trans ?_ (Below.mono HW1.out ?_)) | (with_reducible refine Below.trans ?_ (Below.mono HW2.out ?_)) | (with_reducible refine Below.trans ?_ (Below.mono HW3.out ?_)) | (with_reducible refine Below.trans ?_ (Below.mono HW4.out ?_)) | (with_reducible refine Below.trans ?_ (Below.mono HW5.out ?_)) | (with_reducible refine Below.trans ?_ (Below.mono HW6.out ?_)) | (with_reducible refine Below.trans ?_ (Below.mono HW7.out ?_)) | (with_reducible exact Nat.le_refl _) | omega | (simp only [World.size_alloc, World.size_setCell, World.size_drew, size_drewN]; omega) | (simp; done) | (simp; omega)))⟩
end Go.Proofs.Ytfcemlcocdhmfaa
