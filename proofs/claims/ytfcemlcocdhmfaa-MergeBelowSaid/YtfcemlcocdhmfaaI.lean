/- Ahead: does one record stand ahead of another one? -/
import Derived.Test.YtfcemlcocdhmfaaH
namespace Go.Proofs.Ytfcemlcocdhmfaa
open Go.RowKit Go
set_option linter.unusedVariables false
set_option linter.unusedSimpArgs false

theorem compare_refl : ∀ a : List UInt8, Lib.compareBytes a a = 0
  | [] => rfl
  | x :: a => by
    unfold Lib.compareBytes
    simp [UInt8.lt_irrefl, compare_refl a]
theorem compare_eq : ∀ {a b : List UInt8}, Lib.compareBytes a b = 0 → a = b
  | [], [], _ => rfl
  | [], _ :: _, h => by simp [Lib.compareBytes] at h
  | _ :: _, [], h => by simp [Lib.compareBytes] at h
  | x :: a, y :: b, h => by
    unfold Lib.compareBytes at h
    by_cases h1 : x < y
    · simp [h1] at h
    · by_cases h2 : y < x
      · simp [h1, h2] at h
      · simp only [h1, h2, if_false] at h
        have : x = y := UInt8.le_antisymm (UInt8.not_lt.1 h2) (UInt8.not_lt.1 h1)
        rw [this, compare_eq h]
theorem less_compare : ∀ (a b : List UInt8), Op.bytesLess a b = decide (Lib.compareBytes a b < 0)
  | [], [] => by simp [Lib.compareBytes, Op.bytesLess]
  | [], _ :: _ => by simp [Lib.compareBytes, Op.bytesLess]
  | _ :: _, [] => by simp [Lib.compareBytes, Op.bytesLess]
  | x :: a, y :: b => by
    have ih := less_compare a b
    unfold Lib.compareBytes Op.bytesLess
    by_cases h1 : x < y
    · simp [h1]
    · by_cases h2 : y < x
      · simp [h1, h2]
        intro h; subst h; exact absurd h2 (UInt8.lt_irrefl _)
      · simp [h1, h2, ih]
        intro _; exact UInt8.le_antisymm (UInt8.not_lt.1 h2) (UInt8.not_lt.1 h1)
set_option maxHeartbeats 1600000 in
theorem ahead_any (a b : Rc) (u v : Value) (w : World) (ha : IsRc w w.heap.size u a) (hb : IsRc w w.heap.size v b) :
    Calls Try.prog 29 #[u, v] w fun e w' => e = .returned (.bool (decide (ordS a b.key b.seq < 0))) ∧ Below w.heap.size w w' := by
  obtain ⟨k1, v1, rfl, hk1, hv1⟩ := ha
  obtain ⟨k2, v2, rfl, hk2, hv2⟩ := hb
  have hB : Below w.heap.size w ((w.alloc (.cells #[k1, .int .i64 a.seq, .bool a.del, v1] 40)).alloc (.cells #[k2, .int .i64 b.seq, .bool b.del, v2] 40)) := (by repeat' (first | (with_reducible exact Below.refl _ _) | (with_reducible refine Below.alloc ?_ ?_ _) | (with_reducible refine below_drewN ?_ _) | (with_reducible refine Below.drew ?_) | (with_reducible refine Below.setCell ?_ ?_ _) | (with_reducible refine Below.trans ?_ (Below.mono HW0.out ?_)) | (with_reducible refine Below.trans ?_ (Below.mono HW1.out ?_)) | (with_reducible refine Below.trans ?_ (Below.mono HW2.out ?_)) | (with_reducible refine Below.trans ?_ (Below.mono HW3.out ?_)) | (with_reducible refine Below.trans ?_ (Below.mono HW4.out ?_)) | (with_reducible refine Below.trans ?_ (Below.mono HW5.out ?_)) | (with_reducible refine Below.trans ?_ (Below.mono HW6.out ?_)) | (with_reducible refine Below.trans ?_ (Below.mono HW7.out ?_)) | (with_reducible exact Nat.le_refl _) | omega | (simp only [World.size_alloc, World.size_setCell, World.size_drew, size_drewN]; omega) | (simp; done) | (simp; omega)))
  have e1 := (hk1.below hB).conv
  have e2 := (hk2.below hB).conv
  obtain ⟨A1, c1, rfl, _⟩ := hk1
  obtain ⟨A2, c2, rfl, _⟩ := hk2
  clear hB
  go_enter Try.func29, Try.ntmps29
  go_wp2_with fail
  all_goals (try go_ret)
  all_goals clear e1 e2
  all_goals (try simp only [str_l] at *)
  all_goals refine ⟨ret_bool ?_, (by repeat' (first | (with_reducible exact Below.refl _ _) | (with_reducible refine Below.alloc ?_ ?_ _) | (with_reducible refine below_drewN ?_ _) | (with_reducible refine Below.drew ?_) | (with_reducible refine Below.setCell ?_ ?_ _) | (with_reducible refine Below.trans ?_ (Below.mono HW0.out ?_)) | (with_reducible refine Below.trans ?_ (Below.mono HW1.out ?_)) | (with_reducible refine Below.trans ?_ (Below.mono HW2.out ?_)) | (with_reducible refine Below.trans ?_ (Below.mono HW3.out ?_)) | (with_reducible refine Below.trans ?_ (Below.mono HW4.out ?_)) | (with_reducible refine Below.trans ?_ (Below.mono HW5.out ?_)) | (with_reducible refine Below.trans ?_ (Below.mono HW6.out ?_)) | (with_reducible refine Below.trans ?_ (Below.mono HW7.out ?_)) | (with_reducible exact Nat.le_refl _) | omega | (simp only [World.size_alloc, World.size_setCell, World.size_drew, size_drewN]; omega) | (simp; done) | (simp; omega)))⟩
  · rename_i h
    rw [less_compare] at h
    have h : Lib.compareBytes a.key b.key < 0 := by simpa using h
    unfold ordS orI; rw [if_neg (by omega)]; simpa using h
  · rename_i h1 h2
    unfold ordS orI; rw [if_pos (by rw [h2]; exact compare_refl _)]
    unfold Lib.compareInt
    rw [Bool.eq_iff_iff]; simp; repeat' split
    all_goals simp; omega
  · rename_i h1 h2
    rw [less_compare] at h1
    have h1 : ¬ Lib.compareBytes a.key b.key < 0 := by simpa using h1
    unfold ordS orI; rw [if_neg (fun h => h2 (compare_eq h))]; simpa using h1
end Go.Proofs.Ytfcemlcocdhmfaa
