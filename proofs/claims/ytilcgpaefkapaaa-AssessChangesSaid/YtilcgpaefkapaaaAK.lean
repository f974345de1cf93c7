/- The walk of AssessChanges. -/
import Derived.Test.YtilcgpaefkapaaaAE
import Derived.Test.YtilcgpaefkapaaaAI
import Derived.Test.YtilcgpaefkapaaaAD
namespace Go.Proofs.Ytilcgpaefkapaaa
open Go.RowKit Go
set_option linter.unusedVariables false
set_option linter.unusedSimpArgs false

/-- The boxes of AssessChanges. -/
structure BoxC (w W : World) (A : Option Addr) (n c : Nat) (s : Sch) (a f : Ret) : Prop where
  b0 : W.heap[w.heap.size]? = some (schO A n c s)
  b1 : W.heap[w.heap.size + 1]? = some (retO a 31)
  b2 : W.heap[w.heap.size + 1 + 1]? = some (retO f 31)
  bel : Below w.heap.size w W
theorem BoxC.start (w : World) (A : Option Addr) (n c : Nat) (s : Sch) (a f : Ret) : BoxC w (((w.alloc (schO A n c s)).alloc (retO a 31)).alloc (retO f 31)) A n c s a f :=
  ⟨blk_alloc (blk_alloc (blk_new w _ rfl) _) _, blk_alloc (blk_new _ _ (by simp)) _, blk_new _ _ (by simp), (((Below.refl _ _).alloc (Nat.le_refl _) _).alloc (by simp) _).alloc (by simp; omega) _⟩
theorem BoxC.up {w W W' : World} {A : Option Addr} {n c : Nat} {s : Sch} {a f : Ret} (h : BoxC w W A n c s a f) (hb : Below W.heap.size W W') : BoxC w W' A n c s a f :=
  ⟨blk_below h.b0 hb (blk_lt h.b0), blk_below h.b1 hb (blk_lt h.b1), blk_below h.b2 hb (blk_lt h.b2), h.bel.trans (hb.mono h.bel.size)⟩
set_option maxHeartbeats 3200000 in
set_option maxRecDepth 100000 in
theorem assessChanges_walk (A : Option Addr) (n c : Nat) (s : Sch) (a f : Ret) (w : World) (hn : s.bs.length = n) (hr : Rd w w.heap.size 2 A n (brCs s.bs)) :
    Calls Try.prog 7 #[schV A n c s, retV a, retV f] w fun e w' => e = .returned (.bool true) ∧ Below w.heap.size w w' := by
  have hbx := BoxC.start w A n c s a f
  have HR0 := Lib.hid hr
  have HBX := Lib.hid hbx
  obtain ⟨P, hP⟩ : ∃ p, changeS s a f = p := ⟨_, rfl⟩
  have cp := fun wx h => change_any A n c s a f wx hn h
  have cq := fun wx h => rchange_any A n c s a f wx hn h
  rw [hP] at cp cq
  obtain ⟨⟨p0, p1, p2, p3⟩, ep⟩ := P
  have CP := Lib.hid cp; have CQ := Lib.hid cq
  clear hr hbx hn hP cp cq
  go_enter Try.func7, Try.ntmps7
  go_wp2_with fail
  generalize ((w.alloc (schO A n c s)).alloc (retO a 31)).alloc (retO f 31) = W at *
  refine (awake_any W).mono ?_; rintro e w1 ⟨rfl, hw1⟩
  have HB1 := Lib.hid (HBX.out.up hw1)
  obtain ⟨s0, s1, s2, s3, s4, s5⟩ := cells6 HB1.out.b0
  obtain ⟨v0, v1, v2, v3, v4⟩ := cells5B HB1.out.b1
  obtain ⟨y0, y1, y2, y3, y4⟩ := cells5B (g := w.heap.size + 1 + 1) HB1.out.b2
  have HR1 := Lib.hid ((HR0.out.below HB1.out.bel).wider HB1.out.bel.size)
  clear hw1
  by_cases hn1 : n ≤ 1000
  · go_wp2_with fail
    refine (CP.out w1 HR1.out).mono ?_; rintro e w2 ⟨rfl, hw2⟩
    have hb2 := HB1.out.up hw2
    clear s0 s1 s2 s3 s4 s5 v0 v1 v2 v3 v4 y0 y1 y2 y3 y4 hw2
    obtain ⟨s0, s1, s2, s3, s4, s5⟩ := cells6 hb2.b0
    obtain ⟨v0, v1, v2, v3, v4⟩ := cells5B hb2.b1
    obtain ⟨y0, y1, y2, y3, y4⟩ := cells5B (g := w.heap.size + 1 + 1) hb2.b2
    have hz20 := blk_lt hb2.b0; have hz21 := blk_lt hb2.b1
    have hz22 : w.heap.size + 1 + 1 < w2.heap.size := blk_lt hb2.b2
    have HB2 := Lib.hid (hb2.up (below_new w2 (blO p0 p1 p2 p3)))
    have hga := heap_alloc_new w2 (blO p0 p1 p2 p3)
    clear hb2
    go_wp2_with fail
    obtain ⟨ga, hgae⟩ : ∃ ga, ga = w2.heap.size := ⟨_, rfl⟩
    rw [← hgae] at hga ⊢
    generalize w2.alloc (blO p0 p1 p2 p3) = W2 at *
    have HGA := Lib.hid hga
    have HR2 := Lib.hid ((HR0.out.below HB2.out.bel).wider HB2.out.bel.size)
    clear hga hgae hz20 hz21 hz22 s0 s1 s2 s3 s4 s5 v0 v1 v2 v3 v4 y0 y1 y2 y3 y4
    refine (CQ.out W2 HR2.out).mono ?_; rintro e w3 ⟨rfl, hw3⟩
    have HB3 := Lib.hid (HB2.out.bel.trans (hw3.mono HB2.out.bel.size))
    have hga3 := blk_below HGA.out hw3 (blk_lt HGA.out)
    obtain ⟨s0, s1, s2, s3, s4⟩ := cells4B hga3
    have hz30 := blk_lt hga3
    have g1 : (p0 == p0) = true := by simp
    have g2 : (p1 == p1) = true := by simp
    have g3 : (p2 == p2) = true := by simp
    have g4 : (p3 == p3) = true := by simp
    have g5 : (ep == ep) = true := by simp
    clear hw3 hga3
    go_wp2_with fail
    go_ret
    exact ⟨ret_bool (by simp), HB3.out.alloc HB3.out.size _⟩
  · go_wp2_with fail
    go_ret
    exact ⟨rfl, HB1.out.bel⟩
end Go.Proofs.Ytilcgpaefkapaaa
