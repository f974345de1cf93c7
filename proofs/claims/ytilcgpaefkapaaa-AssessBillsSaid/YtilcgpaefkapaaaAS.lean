/- The walks of AssessSums and AssessLater. -/
import Derived.Test.YtilcgpaefkapaaaAD
import Derived.Test.YtilcgpaefkapaaaRX
namespace Go.Proofs.Ytilcgpaefkapaaa
open Go.RowKit Go
set_option linter.unusedVariables false
set_option linter.unusedSimpArgs false

/-- The boxes of a schedule and a return. -/
structure Box2 (w W : World) (A : Option Addr) (n c : Nat) (s : Sch) (r : Ret) : Prop where
  b0 : W.heap[w.heap.size]? = some (schO A n c s)
  b1 : W.heap[w.heap.size + 1]? = some (retO r 31)
  bel : Below w.heap.size w W
theorem Box2.start (w : World) (A : Option Addr) (n c : Nat) (s : Sch) (r : Ret) : Box2 w ((w.alloc (schO A n c s)).alloc (retO r 31)) A n c s r :=
  ⟨blk_alloc (blk_new w _ rfl) _, blk_new _ _ (by simp), ((Below.refl _ _).alloc (Nat.le_refl _) _).alloc (by simp) _⟩
theorem Box2.up {w W W' : World} {A : Option Addr} {n c : Nat} {s : Sch} {r : Ret} (h : Box2 w W A n c s r) (hb : Below W.heap.size W W') : Box2 w W' A n c s r :=
  ⟨blk_below h.b0 hb (blk_lt h.b0), blk_below h.b1 hb (blk_lt h.b1), h.bel.trans (hb.mono h.bel.size)⟩
set_option maxHeartbeats 3200000 in
set_option maxRecDepth 100000 in
theorem assessSums_walk (A : Option Addr) (n c : Nat) (s : Sch) (r : Ret) (w : World) (hn : s.bs.length = n) (hr : Rd w w.heap.size 2 A n (brCs s.bs)) :
    Calls Try.prog 5 #[schV A n c s, retV r] w fun e w' => e = .returned (.bool true) ∧ Below w.heap.size w w' := by
  have hbx := Box2.start w A n c s r
  have HRD := Lib.hid ((hr.below hbx.bel).wider hbx.bel.size)
  have HBX := Lib.hid hbx
  have HRT := Lib.hid (fun wx h => rright_any A n c s wx hn h)
  have HBL := Lib.hid (fun wx h => bill_any A n c s r wx hn h)
  have HN := Lib.hid hn
  clear hr hbx hn
  go_enter Try.func5, Try.ntmps5
  go_wp2_with fail
  generalize (w.alloc (schO A n c s)).alloc (retO r 31) = W at *
  refine (awake_any W).mono ?_; rintro e w1 ⟨rfl, hw1⟩
  have HB1 := Lib.hid (HBX.out.up hw1)
  have HR1 := Lib.hid ((HRD.out.below hw1).wider hw1.size)
  obtain ⟨s0, s1, s2, s3, s4, s5⟩ := cells6 HB1.out.b0
  clear hw1
  go_wp2_with fail
  refine (HRT.out w1 HR1.out).mono ?_; rintro e w2 ⟨rfl, hw2⟩
  have HB2 := Lib.hid (HB1.out.up hw2)
  have HR2 := Lib.hid ((HR1.out.below hw2).wider hw2.size)
  clear hw2 s0 s1 s2 s3 s4 s5
  obtain ⟨q0, q1, q2, q3, q4⟩ := cells5B HB2.out.b1
  go_wp2_with fail
  refine (rretright_any r w2).mono ?_; rintro e w3 ⟨rfl, hw3⟩
  have HB3 := Lib.hid (HB2.out.up hw3)
  have HR3 := Lib.hid ((HR2.out.below hw3).wider hw3.size)
  clear hw3 q0 q1 q2 q3 q4
  obtain ⟨s0, s1, s2, s3, s4, s5⟩ := cells6 HB3.out.b0
  obtain ⟨q0, q1, q2, q3, q4⟩ := cells5B HB3.out.b1
  go_wp2_with fail
  refine (HBL.out w3 HR3.out).mono ?_; rintro e w4 ⟨rfl, hw4⟩
  have HB4 := Lib.hid (HB3.out.up hw4)
  clear hw4 s0 s1 s2 s3 s4 s5 q0 q1 q2 q3 q4
  obtain ⟨s0, s1, s2, s3, s4, s5⟩ := cells6 HB4.out.b0
  obtain ⟨q0, q1, q2, q3, q4⟩ := cells5B HB4.out.b1
  have hz4 : w.heap.size + 1 < w4.heap.size := blk_lt HB4.out.b1
  have hz40 : w.heap.size < w4.heap.size := by omega
  by_cases hok : okS s = true
  · by_cases hrt : retB r = true
    · have hb := billS_yes (okS_yes hok) hrt
      have hbd := bill_bd (okS_yes hok) hrt
      have hw := mny_yes (retB_yes hrt).2.2.2.2
      have hn10 : n ≤ 10 := by have := (okS_yes hok).1.2; have := HN.out; omega
      obtain ⟨bv, hbv⟩ : ∃ b, billV s r = b := ⟨_, rfl⟩
      rw [hbv] at hb hbd
      obtain ⟨t, p, pe, x⟩ := bv
      rw [hb, hok, hrt]
      dsimp only at hbd
      obtain ⟨⟨t1, t2⟩, ⟨p1, p2⟩, ⟨e1, e2⟩, ⟨x1, x2⟩, hor, hsum⟩ := hbd
      have hte : t = p + r.wh - x := hsum
      clear hok hrt hb hbv hsum
      have HBB : Hid (Below w.heap.size w w4) := HB4.out.bel
      rcases hor with h | h
      · subst h
        have hte2 : t = r.wh - x := by omega
        clear hte
        subst hte2
        have hs2 : IntKind.i64.wrap (r.wh - x) = r.wh - x := IntWalk.i64_in _ (by omega)
        go_wp2_with fail
        go_ret
        exact ⟨ret_bool (by simp; try omega), HBB.out.alloc HBB.out.size _⟩
      · subst h
        have hte2 : t = p + r.wh := by omega
        clear hte
        subst hte2
        have hs2 : IntKind.i64.wrap (p + r.wh) = p + r.wh := IntWalk.i64_in _ (by omega)
        go_wp2_with fail
        all_goals go_ret
        all_goals exact ⟨ret_bool (by simp; try omega), HBB.out.alloc HBB.out.size _⟩
    · have hb := billS_no2 (s := s) hrt
      rw [hb, hok, Bool.eq_false_iff.2 hrt]
      clear hok hrt hb
      go_wp2_with fail
      go_ret
      exact ⟨ret_bool (by simp), HB4.out.bel.alloc HB4.out.bel.size _⟩
  · have hb := billS_no1 (r := r) (fun h => hok (okS_is h))
    rw [hb, Bool.eq_false_iff.2 hok]
    obtain ⟨d, hd⟩ : ∃ d, retB r = d := ⟨_, rfl⟩
    rw [hd]
    clear hok hb hd
    go_wp2_with fail
    go_ret
    exact ⟨ret_bool (by simp), HB4.out.bel.alloc HB4.out.bel.size _⟩
end Go.Proofs.Ytilcgpaefkapaaa
