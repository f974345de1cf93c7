/- Pairs of a key and a value: rows of them; are two rows the same? -/
import Derived.Test.YtfcemlcocdhmfaaA3
namespace Go.Proofs.Ytfcemlcocdhmfaa
open Go.RowKit Go
set_option linter.unusedVariables false
set_option linter.unusedSimpArgs false

/-- A pair in a row: its cells, and what they say. -/
structure Pr where
  kv : Value
  vv : Value
  p : List UInt8 × List UInt8
def Pr.cells (q : Pr) : List Value := [q.kv, q.vv]
def prCells (qs : List Pr) : List Value := qs.flatMap Pr.cells
theorem prCells_len (qs : List Pr) : (prCells qs).length = qs.length * 2 := by
  unfold prCells
  induction qs with
  | nil => rfl
  | cons q qs ih => rw [List.flatMap_cons, List.length_append, ih]; simp [Pr.cells]; omega
theorem prCells_app (a b : List Pr) : prCells (a ++ b) = prCells a ++ prCells b := by simp [prCells]
theorem prCells_drop (qs : List Pr) (k : Nat) : (prCells qs).drop (k * 2) = prCells (qs.drop k) := by
  induction qs generalizing k with
  | nil => simp [prCells]
  | cons q qs ih =>
    cases k with
    | zero => simp [prCells]
    | succ k =>
      have h1 : prCells (q :: qs) = q.cells ++ prCells qs := by simp [prCells]
      rw [List.drop_succ_cons, h1, ← ih k, List.drop_append]
      have : q.cells.length = 2 := rfl
      rw [this, show (k + 1) * 2 - 2 = k * 2 by omega, List.drop_of_length_le (by rw [this]; omega), List.nil_append]
theorem prCells_at (qs : List Pr) (k : Nat) (h : k < qs.length) : (prCells qs)[k * 2]? = some qs[k].kv ∧ (prCells qs)[k * 2 + 1]? = some qs[k].vv := by
  have h1 := prCells_drop qs k
  rw [List.drop_eq_getElem_cons h] at h1
  have h2 : ∀ j, (prCells qs)[k * 2 + j]? = (prCells (qs[k] :: qs.drop (k + 1)))[j]? := fun j => by rw [← h1, List.getElem?_drop]
  have h3 : prCells (qs[k] :: qs.drop (k + 1)) = qs[k].cells ++ prCells (qs.drop (k + 1)) := List.flatMap_cons
  rw [h3] at h2
  exact ⟨(h2 0).trans rfl, (h2 1).trans rfl⟩
/-- A slice of pairs that reads as qs. -/
def RowP (w : World) (v : Value) (qs : List Pr) : Prop := ∃ A c, v = .slice A qs.length c ∧ Rd w w.heap.size 2 A qs.length (prCells qs) ∧ ∀ q ∈ qs, Bs w w.heap.size q.kv q.p.1 ∧ Bs w w.heap.size q.vv q.p.2
theorem RowP.up {w w' : World} {v : Value} {qs : List Pr} (h : RowP w v qs) (hb : Below w.heap.size w w') : RowP w' v qs := by
  obtain ⟨A, c, e, hr, hq⟩ := h
  exact ⟨A, c, e, (hr.below hb).wider hb.size, fun q hq' => ⟨(hq q hq').1.up hb, (hq q hq').2.up hb⟩⟩
theorem RowP.form {w : World} {v : Value} {qs : List Pr} (h : RowP w v qs) : ∃ A c, v = .slice A qs.length c := let ⟨A, c, e, _⟩ := h; ⟨A, c, e⟩
theorem RowP.at_ {w : World} {A : Option Addr} {n c : Nat} {qs : List Pr} (h : RowP w (.slice A n c) qs) {k : Nat} (hk : k < qs.length) : ∃ b off, A = some ⟨b, off, none⟩ ∧ b < w.heap.size ∧ w.cell? ⟨b, off + k * 2, none⟩ = some qs[k].kv ∧ w.cell? ⟨b, off + k * 2 + 1, none⟩ = some qs[k].vv := by
  obtain ⟨A', c', e, hr, hq⟩ := h
  injection e with e1 e2 e3
  subst e1
  obtain ⟨b, off, e, hb, hcl⟩ := hr.2 (by omega)
  obtain ⟨h0, h1⟩ := prCells_at qs k hk
  exact ⟨b, off, e, hb, (hcl (k * 2) (by omega)).trans h0, (hcl (k * 2 + 1) (by omega)).trans h1⟩
theorem RowP.bs {w : World} {v : Value} {qs : List Pr} (h : RowP w v qs) {k : Nat} (hk : k < qs.length) : Bs w w.heap.size qs[k].kv qs[k].p.1 ∧ Bs w w.heap.size qs[k].vv qs[k].p.2 := by
  obtain ⟨A', c', e, hr, hq⟩ := h
  exact hq _ (List.getElem_mem hk)

set_option maxHeartbeats 1600000 in
theorem same10_any (a b : List UInt8 × List UInt8) (k1 v1 k2 v2 : Value) (w : World) (hk1 : Bs w w.heap.size k1 a.1) (hv1 : Bs w w.heap.size v1 a.2) (hk2 : Bs w w.heap.size k2 b.1) (hv2 : Bs w w.heap.size v2 b.2) :
    Calls Try.prog 30 #[.agg #[k1, v1], .agg #[k2, v2]] w fun e w' => e = .returned (.bool (decide (a = b))) ∧ Below w.heap.size w w' := by
  have hB : Below w.heap.size w ((w.alloc (.cells #[k1, v1] 58)).alloc (.cells #[k2, v2] 58)) := (by repeat' (first | (with_reducible exact Below.refl _ _) | (with_reducible refine Below.alloc ?_ ?_ _) | (with_reducible refine below_drewN ?_ _) | (with_reducible refine Below.drew ?_) | (with_reducible refine Below.setCell ?_ ?_ _) | (with_reducible refine Below.trans ?_ (Below.mono HW0.out ?_)) | (with_reducible refine Below.trans ?_ (Below.mono HW1.out ?_)) | (with_reducible refine Below.trans ?_ (Below.mono HW2.out ?_)) | (with_reducible refine Below.trans ?_ (Below.mono HW3.out ?_)) | (with_reducible refine Below.trans ?_ (Below.mono HW4.out ?_)) | (with_reducible refine Below.trans ?_ (Below.mono HW5.out ?_)) | (with_reducible refine Below.trans ?_ (Below.mono HW6.out ?_)) | (with_reducible refine Below.trans ?_ (Below.mono HW7.out ?_)) | (with_reducible exact Nat.le_refl _) | omega | (simp only [World.size_alloc, World.size_setCell, World.size_drew, size_drewN]; omega) | (simp; done) | (simp; omega)))
  have e1 := (hk1.below hB).conv
  have e2 := (hk2.below hB).conv
  have e3 := (hv1.below hB).conv
  have e4 := (hv2.below hB).conv
  obtain ⟨A1, c1, rfl, _⟩ := hk1
  obtain ⟨A2, c2, rfl, _⟩ := hk2
  obtain ⟨A3, c3, rfl, _⟩ := hv1
  obtain ⟨A4, c4, rfl, _⟩ := hv2
  obtain ⟨ak, av⟩ := a
  obtain ⟨bk, bv⟩ := b
  clear hB
  simp only at e1 e2 e3 e4 ⊢
  go_enter Try.func30, Try.ntmps30
  go_wp2_with fail
  all_goals (try go_ret)
  all_goals clear e1 e2 e3 e4
  all_goals (try simp only [str_l] at *)
  all_goals exact ⟨ret_bool (by simp_all <;> (rw [Bool.eq_iff_iff]; simp)), (by repeat' (first | (with_reducible exact Below.refl _ _) | (with_reducible refine Below.alloc ?_ ?_ _) | (with_reducible refine below_drewN ?_ _) | (with_reducible refine Below.drew ?_) | (with_reducible refine Below.setCell ?_ ?_ _) | (with_reducible refine Below.trans ?_ (Below.mono HW0.out ?_)) | (with_reducible refine Below.trans ?_ (Below.mono HW1.out ?_)) | (with_reducible refine Below.trans ?_ (Below.mono HW2.out ?_)) | (with_reducible refine Below.trans ?_ (Below.mono HW3.out ?_)) | (with_reducible refine Below.trans ?_ (Below.mono HW4.out ?_)) | (with_reducible refine Below.trans ?_ (Below.mono HW5.out ?_)) | (with_reducible refine Below.trans ?_ (Below.mono HW6.out ?_)) | (with_reducible refine Below.trans ?_ (Below.mono HW7.out ?_)) | (with_reducible exact Nat.le_refl _) | omega | (simp only [World.size_alloc, World.size_setCell, World.size_drew, size_drewN]; omega) | (simp; done) | (simp; omega)))⟩
end Go.Proofs.Ytfcemlcocdhmfaa
