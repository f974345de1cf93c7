/- The walk of AssessAdds. -/
import Derived.Test.YtilcgpaefkapaaaAI
import Derived.Test.YtilcgpaefkapaaaAD
namespace Go.Proofs.Ytilcgpaefkapaaa
open Go.RowKit Go
set_option linter.unusedVariables false
set_option linter.unusedSimpArgs false

theorem change_zero {s : Sch} {a b : Ret} (h : (changeS s a b).2 = 0) : okS s = true ∧ retB a = true ∧ retB b = true ∧ changeS s a b = ((billV s (a.moved b)).sub (billV s a), 0) := by
  by_cases h1 : okS s = true ∧ retB a = true
  · by_cases h2 : retB b = true
    · by_cases h3 : a.per ≠ b.per ∨ b.filed < a.filed
      · rw [change_ord h1.1 h1.2 h2 h3] at h; exact absurd h (by decide)
      · exact ⟨h1.1, h1.2, h2, change_yes h1.1 h1.2 h2 h3⟩
    · rw [change_no2 h2] at h; exact absurd h (by decide)
  · rw [change_no1 h1] at h; exact absurd h (by decide)
def Ret.other (r : Ret) (x y : Int) : Ret := { r with inc := x, wh := y }
theorem adds {s : Sch} {r : Ret} {x0 x1 x2 x3 : Int} {P Q : Bl} {ep eq : Int} (hp : changeS s r (r.other x0 x1) = (P, ep)) (hq : changeS s (r.other x0 x1) (r.other x2 x3) = (Q, eq)) (h1 : ep = 0) (h2 : eq = 0) :
    changeS s r (r.other x2 x3) = (⟨P.tax + Q.tax, P.prin + Q.prin, P.pen + Q.pen, P.exc + Q.exc⟩, 0) ∧
      ((-9000000000000000 ≤ P.tax + Q.tax ∧ P.tax + Q.tax ≤ 9000000000000000) ∧ (-9000000000000000 ≤ P.prin + Q.prin ∧ P.prin + Q.prin ≤ 9000000000000000)) ∧ (-9000000000000000 ≤ P.pen + Q.pen ∧ P.pen + Q.pen ≤ 9000000000000000) ∧ (-9000000000000000 ≤ P.exc + Q.exc ∧ P.exc + Q.exc ≤ 9000000000000000) := by
  obtain ⟨k1, k2, k3, k4⟩ := change_zero (s := s) (a := r) (b := r.other x0 x1) (by rw [hp]; exact h1)
  obtain ⟨m1, m2, m3, m4⟩ := change_zero (s := s) (a := r.other x0 x1) (b := r.other x2 x3) (by rw [hq]; exact h2)
  rw [hp] at k4; rw [hq] at m4
  have e1 : r.moved (r.other x0 x1) = r.other x0 x1 := rfl
  have e2 : (r.other x0 x1).moved (r.other x2 x3) = r.other x2 x3 := rfl
  have e3 : r.moved (r.other x2 x3) = r.other x2 x3 := rfl
  rw [e1] at k4; rw [e2] at m4
  obtain ⟨rfl, -⟩ := Prod.mk.inj k4
  obtain ⟨rfl, -⟩ := Prod.mk.inj m4
  have b1 := bill_bd (okS_yes k1) k2; have b2 := bill_bd (okS_yes k1) k3; have b3 := bill_bd (okS_yes k1) m3
  have hy : ¬ (r.per ≠ (r.other x2 x3).per ∨ (r.other x2 x3).filed < r.filed) := by
    rintro (h | h)
    · exact h rfl
    · exact absurd h (Int.lt_irrefl _)
  rw [change_yes k1 k2 m3 hy, e3]
  refine ⟨?_, ?_⟩
  · simp only [Bl.sub, Prod.mk.injEq, Bl.mk.injEq, and_true]
    refine ⟨?_, ?_, ?_, ?_⟩ <;> omega
  · simp only [Bl.sub]
    refine ⟨⟨?_, ?_⟩, ?_, ?_⟩ <;> omega
/-- The boxes of AssessAdds. -/
structure Box3 (w W : World) (A : Option Addr) (n c : Nat) (s : Sch) (r : Ret) (x0 x1 x2 x3 : Int) : Prop where
  b0 : W.heap[w.heap.size]? = some (schO A n c s)
  b1 : W.heap[w.heap.size + 1]? = some (retO r 31)
  b2 : W.heap[w.heap.size + 1 + 1]? = some (.cells #[.int .i64 x0, .int .i64 x1, .int .i64 x2, .int .i64 x3] 42)
  bel : Below w.heap.size w W
theorem Box3.start (w : World) (A : Option Addr) (n c : Nat) (s : Sch) (r : Ret) (x0 x1 x2 x3 : Int) : Box3 w (((w.alloc (schO A n c s)).alloc (retO r 31)).alloc (.cells #[.int .i64 x0, .int .i64 x1, .int .i64 x2, .int .i64 x3] 42)) A n c s r x0 x1 x2 x3 :=
  ⟨blk_alloc (blk_alloc (blk_new w _ rfl) _) _, blk_alloc (blk_new _ _ (by simp)) _, blk_new _ _ (by simp), (((Below.refl _ _).alloc (Nat.le_refl _) _).alloc (by simp) _).alloc (by simp; omega) _⟩
theorem Box3.up {w W W' : World} {A : Option Addr} {n c : Nat} {s : Sch} {r : Ret} {x0 x1 x2 x3 : Int} (h : Box3 w W A n c s r x0 x1 x2 x3) (hb : Below W.heap.size W W') : Box3 w W' A n c s r x0 x1 x2 x3 :=
  ⟨blk_below h.b0 hb (blk_lt h.b0), blk_below h.b1 hb (blk_lt h.b1), blk_below h.b2 hb (blk_lt h.b2), h.bel.trans (hb.mono h.bel.size)⟩
set_option maxHeartbeats 3200000 in
set_option maxRecDepth 100000 in
theorem assessAdds_walk (A : Option Addr) (n c : Nat) (s : Sch) (r : Ret) (x0 x1 x2 x3 : Int) (w : World) (hn : s.bs.length = n) (hr : Rd w w.heap.size 2 A n (brCs s.bs)) :
    Calls Try.prog 8 #[schV A n c s, retV r, .agg #[.int .i64 x0, .int .i64 x1, .int .i64 x2, .int .i64 x3]] w fun e w' => e = .returned (.bool true) ∧ Below w.heap.size w w' := by
  have hbx := Box3.start w A n c s r x0 x1 x2 x3
  have HR0 := Lib.hid hr
  have HBX := Lib.hid hbx
  obtain ⟨P, hP⟩ : ∃ p, changeS s r (r.other x0 x1) = p := ⟨_, rfl⟩
  obtain ⟨Q, hQ⟩ : ∃ p, changeS s (r.other x0 x1) (r.other x2 x3) = p := ⟨_, rfl⟩
  obtain ⟨R, hR⟩ : ∃ p, changeS s r (r.other x2 x3) = p := ⟨_, rfl⟩
  have cp := fun wx h => change_any A n c s r (r.other x0 x1) wx hn h
  have cq := fun wx h => change_any A n c s (r.other x0 x1) (r.other x2 x3) wx hn h
  have cr := fun wx h => change_any A n c s r (r.other x2 x3) wx hn h
  rw [hP] at cp; rw [hQ] at cq; rw [hR] at cr
  obtain ⟨⟨p0, p1, p2, p3⟩, ep⟩ := P
  obtain ⟨⟨q0, q1, q2, q3⟩, eq⟩ := Q
  have HAD := Lib.hid (adds hP hQ)
  have HRR := Lib.hid hR
  obtain ⟨⟨z0, z1, z2, z3⟩, er⟩ := R
  have CP := Lib.hid cp; have CQ := Lib.hid cq; have CR := Lib.hid cr
  clear hr hbx hn hP hQ hR cp cq cr
  go_enter Try.func8, Try.ntmps8
  go_wp2_with fail
  generalize ((w.alloc (schO A n c s)).alloc (retO r 31)).alloc (.cells #[.int .i64 x0, .int .i64 x1, .int .i64 x2, .int .i64 x3] 42) = W at *
  refine (awake_any W).mono ?_; rintro e w1 ⟨rfl, hw1⟩
  have HB1 := Lib.hid (HBX.out.up hw1)
  obtain ⟨s0, s1, s2, s3, s4, s5⟩ := cells6 HB1.out.b0
  obtain ⟨v0, v1, v2, v3, v4⟩ := cells5B HB1.out.b1
  obtain ⟨y0, y1, y2, y3, -⟩ := cells4B HB1.out.b2
  have hz12 : w.heap.size + 1 + 1 < w1.heap.size := blk_lt HB1.out.b2
  have hz11 : w.heap.size + 1 < w1.heap.size := by omega
  have hz10 : w.heap.size < w1.heap.size := by omega
  clear hw1
  by_cases hn1 : n ≤ 1000
  · go_wp2_with fail
    have hb2 := HB1.out.up (((Below.refl _ _).alloc (Nat.le_refl _) (.cells #[.int .i64 r.per, .int .i64 r.due, .int .i64 r.filed, .int .i64 x0, .int .i64 x1] 31)).alloc (by simp) (.cells #[.int .i64 r.per, .int .i64 r.due, .int .i64 r.filed, .int .i64 x2, .int .i64 x3] 31))
    have hL2 := blk_alloc (blk_new w1 (.cells #[.int .i64 r.per, .int .i64 r.due, .int .i64 r.filed, .int .i64 x0, .int .i64 x1] 31) rfl) (.cells #[.int .i64 r.per, .int .i64 r.due, .int .i64 r.filed, .int .i64 x2, .int .i64 x3] 31)
    have hI2 := blk_new (w1.alloc (.cells #[.int .i64 r.per, .int .i64 r.due, .int .i64 r.filed, .int .i64 x0, .int .i64 x1] 31)) (.cells #[.int .i64 r.per, .int .i64 r.due, .int .i64 r.filed, .int .i64 x2, .int .i64 x3] 31) (g := w1.heap.size + 1) (by simp)
    generalize (w1.alloc (.cells #[.int .i64 r.per, .int .i64 r.due, .int .i64 r.filed, .int .i64 x0, .int .i64 x1] 31)).alloc (.cells #[.int .i64 r.per, .int .i64 r.due, .int .i64 r.filed, .int .i64 x2, .int .i64 x3] 31) = W2 at *
    have hr2 := (HR0.out.below hb2.bel).wider hb2.bel.size
    have HB2 := Lib.hid hb2; have HL2 := Lib.hid hL2; have HI2 := Lib.hid hI2; have HR2 := Lib.hid hr2
    clear hb2 hL2 hI2 hr2 s0 s1 s2 s3 s4 s5 v0 v1 v2 v3 v4 y0 y1 y2 y3 hz10 hz11 hz12
    refine (CP.out W2 HR2.out).mono ?_; rintro e w3 ⟨rfl, hw3⟩
    have hb3 := HB2.out.up hw3
    have hL3 := blk_below HL2.out hw3 (blk_lt HL2.out)
    have hI3 := blk_below HI2.out hw3 (blk_lt HI2.out)
    obtain ⟨s0, s1, s2, s3, s4, s5⟩ := cells6 hb3.b0
    obtain ⟨v0, v1, v2, v3, v4⟩ := cells5B hL3
    obtain ⟨y0, y1, y2, y3, y4⟩ := cells5B hI3
    have hz30 := blk_lt hb3.b0; have hz31 := blk_lt hL3; have hz32 := blk_lt hI3
    have HB3 := Lib.hid (hb3.up (below_new w3 (blO p0 p1 p2 p3)))
    have HI3 := Lib.hid (blk_alloc hI3 (blO p0 p1 p2 p3))
    have hga := heap_alloc_new w3 (blO p0 p1 p2 p3)
    clear hw3 hb3 hL3 hI3
    go_wp2_with fail
    obtain ⟨ga, hgae⟩ : ∃ ga, ga = w3.heap.size := ⟨_, rfl⟩
    rw [← hgae] at hga ⊢
    generalize w3.alloc (blO p0 p1 p2 p3) = W3 at *
    have HGA := Lib.hid hga
    have HR3 := Lib.hid ((HR0.out.below HB3.out.bel).wider HB3.out.bel.size)
    clear hga hgae hz30 hz31 hz32 s0 s1 s2 s3 s4 s5 v0 v1 v2 v3 v4 y0 y1 y2 y3 y4
    refine (CQ.out W3 HR3.out).mono ?_; rintro e w4 ⟨rfl, hw4⟩
    have hb4 := HB3.out.up hw4
    have hI4 := blk_below HI3.out hw4 (blk_lt HI3.out)
    have hga4 := blk_below HGA.out hw4 (blk_lt HGA.out)
    obtain ⟨s0, s1, s2, s3, s4, s5⟩ := cells6 hb4.b0
    obtain ⟨v0, v1, v2, v3, v4⟩ := cells5B hb4.b1
    obtain ⟨y0, y1, y2, y3, y4⟩ := cells5B hI4
    have hz40 := blk_lt hb4.b0; have hz41 := blk_lt hb4.b1; have hz42 := blk_lt hI4
    have HB4 := Lib.hid (hb4.up (below_new w4 (blO q0 q1 q2 q3)))
    have HGA4 := Lib.hid (blk_alloc hga4 (blO q0 q1 q2 q3))
    have hgb := heap_alloc_new w4 (blO q0 q1 q2 q3)
    clear hw4 hb4 hI4 hga4
    go_wp2_with fail
    obtain ⟨gb, hgbe⟩ : ∃ gb, gb = w4.heap.size := ⟨_, rfl⟩
    rw [← hgbe] at hgb ⊢
    generalize w4.alloc (blO q0 q1 q2 q3) = W4 at *
    have HGB := Lib.hid hgb
    have HR4 := Lib.hid ((HR0.out.below HB4.out.bel).wider HB4.out.bel.size)
    clear hgb hgbe hz40 hz41 hz42 s0 s1 s2 s3 s4 s5 v0 v1 v2 v3 v4 y0 y1 y2 y3 y4
    refine (CR.out W4 HR4.out).mono ?_; rintro e w5 ⟨rfl, hw5⟩
    have hb5 := HB4.out.up hw5
    have hga5 := blk_below HGA4.out hw5 (blk_lt HGA4.out)
    have hgb5 := blk_below HGB.out hw5 (blk_lt HGB.out)
    obtain ⟨s0, s1, s2, s3, s4⟩ := cells4B hga5
    obtain ⟨v0, v1, v2, v3, v4⟩ := cells4B hgb5
    have hz50 := blk_lt hga5; have hz51 := blk_lt hgb5
    have HB5 := Lib.hid hb5.bel
    clear hw5 hb5 hga5 hgb5
    by_cases hep : ep = 0
    · by_cases heq : eq = 0
      · obtain ⟨hc, ⟨⟨l1, l2⟩, ⟨l3, l4⟩⟩, ⟨l5, l6⟩, ⟨l7, l8⟩⟩ := HAD.out hep heq
        have hh := HRR.out
        rw [hc] at hh
        obtain ⟨hz, rfl⟩ := Prod.mk.inj hh
        simp only [Bl.mk.injEq] at hz
        obtain ⟨rfl, rfl, rfl, rfl⟩ := hz
        have w0 : IntKind.i64.wrap (p0 + q0) = p0 + q0 := IntWalk.i64_in _ (by omega)
        have w1' : IntKind.i64.wrap (p1 + q1) = p1 + q1 := IntWalk.i64_in _ (by omega)
        have w2' : IntKind.i64.wrap (p2 + q2) = p2 + q2 := IntWalk.i64_in _ (by omega)
        have w3' : IntKind.i64.wrap (p3 + q3) = p3 + q3 := IntWalk.i64_in _ (by omega)
        have e0' : (p0 + q0 == p0 + q0) = true := by simp
        have e1' : (p1 + q1 == p1 + q1) = true := by simp
        have e2' : (p2 + q2 == p2 + q2) = true := by simp
        have e3' : (p3 + q3 == p3 + q3) = true := by simp
        subst hep heq
        clear hc hh HAD HRR
        go_wp2_with fail
        go_ret
        exact ⟨ret_bool (by simp), HB5.out.alloc HB5.out.size _⟩
      · subst hep
        have hne : (eq != 0) = true := by simpa using heq
        clear heq HAD HRR
        go_wp2_with fail
        go_ret
        exact ⟨ret_bool (by simp), HB5.out.alloc HB5.out.size _⟩
    · have hne : (ep != 0) = true := by simpa using hep
      clear hep HAD HRR
      go_wp2_with fail
      go_ret
      exact ⟨ret_bool (by simp), HB5.out.alloc HB5.out.size _⟩
  · go_wp2_with fail
    go_ret
    exact ⟨rfl, HB1.out.bel⟩
end Go.Proofs.Ytilcgpaefkapaaa
