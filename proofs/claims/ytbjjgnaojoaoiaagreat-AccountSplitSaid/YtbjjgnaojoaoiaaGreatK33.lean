/- Change, in plain words; what its boxes hold. -/
import Derived.Test.YtbjjgnaojoaoiaaGreatK8
namespace Go.Proofs.YtbjjgnaojoaoiaaGreat
open Go.RowKit Go
set_option linter.unusedVariables false
set_option linter.unusedSimpArgs false

def Ret.moved (a b : Ret) : Ret := { b with due := a.due, filed := a.filed }
theorem change_no1 {s : Sch} {a b : Ret} (h : ¬ (okS s = true ∧ retB a = true)) : changeS s a b = (Bl.zero, 1) := by
  unfold changeS; rw [if_neg]; intro h2; simp only [Bool.and_eq_true] at h2; exact h ⟨h2.1.1, h2.1.2⟩
theorem change_no2 {s : Sch} {a b : Ret} (h : ¬ retB b = true) : changeS s a b = (Bl.zero, 1) := by
  unfold changeS; rw [if_neg]; intro h2; simp only [Bool.and_eq_true] at h2; exact h h2.2
theorem change_ord {s : Sch} {a b : Ret} (h1 : okS s = true) (h2 : retB a = true) (h3 : retB b = true) (h : a.per ≠ b.per ∨ b.filed < a.filed) : changeS s a b = (Bl.zero, 10) := by
  unfold changeS; rw [h1, h2, h3]; exact (if_pos rfl).trans (if_pos h)
theorem change_yes {s : Sch} {a b : Ret} (h1 : okS s = true) (h2 : retB a = true) (h3 : retB b = true) (h : ¬ (a.per ≠ b.per ∨ b.filed < a.filed)) : changeS s a b = ((billV s (a.moved b)).sub (billV s a), 0) := by
  unfold changeS; rw [h1, h2, h3]; exact (if_pos rfl).trans (if_neg h)
/-- What the boxes of Change hold. -/
structure ChBox (w W : World) (A : Option Addr) (n c : Nat) (s : Sch) (a f : Ret) : Prop where
  b0 : W.heap[w.heap.size]? = some (schO A n c s)
  b1 : W.heap[w.heap.size + 1]? = some (retO a 37)
  b2 : W.heap[w.heap.size + 1 + 1]? = some (retO f 37)
  b3 : W.heap[w.heap.size + 1 + 1 + 1]? = some (blO 0 0 0 0)
  bel : Below w.heap.size w W
theorem ChBox.start (w : World) (A : Option Addr) (n c : Nat) (s : Sch) (a f : Ret) : ChBox w ((((w.alloc (schO A n c s)).alloc (retO a 37)).alloc (retO f 37)).alloc (blO 0 0 0 0)) A n c s a f :=
  ⟨blk_alloc (blk_alloc (blk_alloc (blk_new w _ rfl) _) _) _, blk_alloc (blk_alloc (blk_new _ _ (by simp)) _) _, blk_alloc (blk_new _ _ (by simp)) _, blk_new _ _ (by simp), ((((Below.refl _ _).alloc (Nat.le_refl _) _).alloc (by simp) _).alloc (by simp; omega) _).alloc (by simp; omega) _⟩
theorem ChBox.up {w W W' : World} {A : Option Addr} {n c : Nat} {s : Sch} {a f : Ret} (h : ChBox w W A n c s a f) (hb : Below W.heap.size W W') : ChBox w W' A n c s a f :=
  ⟨blk_below h.b0 hb (blk_lt h.b0), blk_below h.b1 hb (blk_lt h.b1), blk_below h.b2 hb (blk_lt h.b2), blk_below h.b3 hb (blk_lt h.b3), h.bel.trans (hb.mono h.bel.size)⟩
theorem ChBox.move {w W : World} {A : Option Addr} {n c : Nat} {s : Sch} {a f : Ret} (h : ChBox w W A n c s a f) : ChBox w ((W.setCell ⟨w.heap.size + 1 + 1, 1, none⟩ (.int .i64 a.due)).setCell ⟨w.heap.size + 1 + 1, 2, none⟩ (.int .i64 a.filed)) A n c s a (a.moved f) :=
  ⟨blk_far (p := ⟨w.heap.size + 1 + 1, 2, none⟩) (blk_far (p := ⟨w.heap.size + 1 + 1, 1, none⟩) h.b0 (by simp; try omega) _) (by simp; try omega) _, blk_far (p := ⟨w.heap.size + 1 + 1, 2, none⟩) (blk_far (p := ⟨w.heap.size + 1 + 1, 1, none⟩) h.b1 (by simp; try omega) _) (by simp; try omega) _,
   blk_set (blk_set h.b2 1 _) 2 _, blk_far (p := ⟨w.heap.size + 1 + 1, 2, none⟩) (blk_far (p := ⟨w.heap.size + 1 + 1, 1, none⟩) h.b3 (by simp; try omega) _) (by simp; try omega) _, (h.bel.setCell (p := ⟨w.heap.size + 1 + 1, 1, none⟩) (by show w.heap.size ≤ w.heap.size + 1 + 1; omega) _).setCell (p := ⟨w.heap.size + 1 + 1, 2, none⟩) (by show w.heap.size ≤ w.heap.size + 1 + 1; omega) _⟩
theorem billS_err {s : Sch} {a : Ret} (h : ¬ (okS s = true ∧ retB a = true)) : billS s a = (Bl.zero, 1) := by
  by_cases h1 : okS s = true
  · exact billS_no2 (fun h2 => h ⟨h1, h2⟩)
  · exact billS_no1 (fun h2 => h1 (okS_is h2))
theorem bill_cell {w : World} {b : Bl} : (w.alloc (blO b.tax b.prin b.pen b.exc)).heap[w.heap.size]? = some (blO b.tax b.prin b.pen b.exc) := heap_alloc_new w _
theorem below_drewA {w w' : World} (h : Below w.drew.heap.size w.drew w') : Below w.heap.size w w' := (Below.refl _ _).drew.trans h
end Go.Proofs.YtbjjgnaojoaoiaaGreat
