/- assess.Bill. -/
import Derived.Test.YtilcgpaefkapaaaAR
import Derived.Test.YtilcgpaefkapaaaRT2
import Derived.Test.YtilcgpaefkapaaaM1
import Derived.Laws.Rows
namespace Go.Proofs.Ytilcgpaefkapaaa
open Go.RowKit Go
set_option linter.unusedVariables false
set_option linter.unusedSimpArgs false

@[reducible] def blV (b : Bl) : Value := .agg #[.int .i64 b.tax, .int .i64 b.prin, .int .i64 b.pen, .int .i64 b.exc]
/-- What a bill comes to, with its error. -/
@[reducible] def blR (p : Bl × Int) : Value := .tuple #[blV p.1, .int .i64 p.2]
theorem results_row_tmpB {P : Program} {fn : Func} {p q : Tmp} {ty : TypeId} (h : fn.results = #[.cell p ty, .tmp q]) (tmps : Array Value) (w : World) (g : Nat) (t : TypeId) (cs : Array Value) (fr : Nat × Nat) (d : TypeDesc)
    (hp : tmps.getD p undef = .pointer (some ⟨g, 0, none⟩)) (hg : w.heap[g]? = some (.cells cs t fr))
    (hu : P.underlying ty = some d) (hd : (match d with | .struct _ | .array _ _ => true | _ => false) = true) (hi : (P.info? ty).map (·.size) = some cs.size) :
    (results fn tmps).run P w = .ok (.tuple #[.agg cs, tmps.getD q undef]) w := by
  have hp' : tmps[p]?.getD undef = .pointer (some ⟨g, 0, none⟩) := by simpa using hp
  simp [results, h, hp', asAddr, run_loadVar_row w g t ty cs fr d hg hu hd hi]
theorem set4_blkB {w1 : World} {v0 v1 v2 v3 : Value} {t g : Nat} (h : w1.heap[g]? = some (.cells #[v0, v1, v2, v3] t (0, 0))) (u0 u1 u2 u3 : Value) :
    ((((w1.setCell ⟨g, 0, none⟩ u0).setCell ⟨g, 1, none⟩ u1).setCell ⟨g, 2, none⟩ u2).setCell ⟨g, 3, none⟩ u3).heap[g]? = some (.cells #[u0, u1, u2, u3] t (0, 0)) := by
  simp [World.setCell, Array.getElem?_modify, h]
theorem below_set4 {B g : Nat} {w w' : World} (h : Below B w w') (hg : B ≤ g) (u0 u1 u2 u3 : Value) : Below B w ((((w'.setCell ⟨g, 0, none⟩ u0).setCell ⟨g, 1, none⟩ u1).setCell ⟨g, 2, none⟩ u2).setCell ⟨g, 3, none⟩ u3) :=
  (((h.setCell hg _).setCell hg _).setCell hg _).setCell hg _
theorem cells4B {w1 : World} {v0 v1 v2 v3 : Value} {t g : Nat} (h : w1.heap[g]? = some (.cells #[v0, v1, v2, v3] t (0, 0))) :
    w1.cell? ⟨g, 0, none⟩ = some v0 ∧ w1.cell? ⟨g, 1, none⟩ = some v1 ∧ w1.cell? ⟨g, 2, none⟩ = some v2 ∧ w1.cell? ⟨g, 3, none⟩ = some v3 ∧ ∀ i, w1.frozen? ⟨g, i, none⟩ = false := by
  simp [World.cell?, World.frozen?, h]
theorem cells5B {w1 : World} {v0 v1 v2 v3 v4 : Value} {t g : Nat} (h : w1.heap[g]? = some (.cells #[v0, v1, v2, v3, v4] t (0, 0))) :
    w1.cell? ⟨g, 0, none⟩ = some v0 ∧ w1.cell? ⟨g, 1, none⟩ = some v1 ∧ w1.cell? ⟨g, 2, none⟩ = some v2 ∧ w1.cell? ⟨g, 3, none⟩ = some v3 ∧ w1.cell? ⟨g, 4, none⟩ = some v4 := by
  simp [World.cell?, h]
@[reducible] def retO (r : Ret) (t : Nat) : Obj := .cells #[.int .i64 r.per, .int .i64 r.due, .int .i64 r.filed, .int .i64 r.inc, .int .i64 r.wh] t
@[reducible] def blO (a b c d : Int) : Obj := .cells #[.int .i64 a, .int .i64 b, .int .i64 c, .int .i64 d] 33
theorem alloc_blO (w : World) {a b c d a' b' c' d' : Int} (h1 : a = a') (h2 : b = b') (h3 : c = c') (h4 : d = d') : w.alloc (blO a b c d) = w.alloc (blO a' b' c' d') := by subst h1 h2 h3 h4; rfl
/-- What the boxes hold, and where they lie. -/
structure BillBox (w W : World) (A : Option Addr) (n c : Nat) (s : Sch) (r : Ret) : Prop where
  b0 : W.heap[w.heap.size]? = some (schO A n c s)
  b1 : W.heap[w.heap.size + 1]? = some (retO r 31)
  b2 : W.heap[w.heap.size + 2]? = some (blO 0 0 0 0)
  bel : Below w.heap.size w W
theorem BillBox.start (w : World) (A : Option Addr) (n c : Nat) (s : Sch) (r : Ret) : BillBox w (((w.alloc (schO A n c s)).alloc (retO r 31)).alloc (blO 0 0 0 0)) A n c s r :=
  ⟨blk_alloc (blk_alloc (blk_new w _ rfl) _) _, blk_alloc (blk_new _ _ (by simp)) _, blk_new _ _ (by simp), (((Below.refl _ _).alloc (Nat.le_refl _) _).alloc (by simp) _).alloc (by simp; omega) _⟩
theorem BillBox.up {w W W' : World} {A : Option Addr} {n c : Nat} {s : Sch} {r : Ret} (h : BillBox w W A n c s r) (hb : Below W.heap.size W W') : BillBox w W' A n c s r :=
  ⟨blk_below h.b0 hb (blk_lt h.b0), blk_below h.b1 hb (blk_lt h.b1), blk_below h.b2 hb (blk_lt h.b2), h.bel.trans (hb.mono h.bel.size)⟩
theorem simple_fineB {p x : Int} (hp : 0 ≤ p) (hx : 0 ≤ x) (c : Int) : fine p x c := .inl (Int.mul_nonneg hp hx)

set_option maxHeartbeats 3200000 in
set_option maxRecDepth 100000 in
theorem bill_any (A : Option Addr) (n c : Nat) (s : Sch) (r : Ret) (w : World) (hn : s.bs.length = n) (hr : Rd w w.heap.size 2 A n (brCs s.bs)) :
    Calls Try.prog 12 #[schV A n c s, retV r] w fun e w' => e = .returned (blR (billS s r)) ∧ Below w.heap.size w w' := by
  have hbx := BillBox.start w A n c s r
  have HTX := Lib.hid (tax_any A n c s r.inc _ hn ((hr.below hbx.bel).wider hbx.bel.size))
  have hz0 : w.heap.size + 2 < (((w.alloc (schO A n c s)).alloc (retO r 31)).alloc (blO 0 0 0 0)).heap.size := by simp
  have HBX := Lib.hid hbx
  clear hn hr hbx
  by_cases hok : (okS s && mny r.inc) = true
  · have hok' : okS s = true ∧ mny r.inc = true := by simpa using hok
    have HOK := Lib.hid (okS_yes hok'.1)
    have ht : taxS s r.inc = (taxV s r.inc, 0) := if_pos hok
    rw [ht] at HTX
    by_cases hrt : retB r = true
    · have HE : Hid (billS s r = (billV s r, 0)) := billS_yes HOK.out hrt
      have HBD := Lib.hid (bill_bd HOK.out hrt)
      have hw := mny_yes (retB_yes hrt).2.2.2.2
      have hd1 := (retB_yes hrt).2.1; have hd2 := (retB_yes hrt).2.2.1
      have HLT := Lib.hid (fun wx => late_any r wx hd1 hd2)
      have htb := taxV_bd HOK.out hok'.2
      obtain ⟨t, htv⟩ : ∃ t, taxV s r.inc = t := ⟨_, rfl⟩
      obtain ⟨p, hpv⟩ : ∃ p, prinV s r = p := ⟨_, rfl⟩
      obtain ⟨x, hxv⟩ : ∃ x, max (r.wh - t) 0 = x := ⟨_, rfl⟩
      have hpt : p = max (t - r.wh) 0 := by rw [← hpv, prinV, htv]
      have HBV : Hid (billV s r = ⟨t, p, penV s p (lateI r), x⟩) := by show _ = _; rw [billV, htv, hpv, hxv]
      rw [htv] at HTX htb
      have hpb : 0 ≤ p ∧ p ≤ 1125899906842624 := by omega
      clear hok hok' ht hd1 hd2 htv hpv
      go_enter Try.func12, Try.ntmps12
      go_wp2_with fail
      generalize ((w.alloc (schO A n c s)).alloc (retO r 31)).alloc (blO 0 0 0 0) = W at *
      refine HTX.out.mono ?_; rintro e w1 ⟨rfl, hw1⟩
      have HB1 := Lib.hid (HBX.out.up hw1)
      obtain ⟨r0, r1, r2, r3, r4⟩ := cells5B HB1.out.b1
      have hz1 : w.heap.size + 2 < w1.heap.size := blk_lt HB1.out.b2
      clear hw1
      go_wp2_with fail
      refine (aright_any r w1).mono ?_; rintro e w2 ⟨rfl, hw2⟩
      rw [hrt]
      have HB2 := Lib.hid (HB1.out.up hw2)
      obtain ⟨r0, r1, r2, r3, r4⟩ := cells5B HB2.out.b1
      have hz2 : w.heap.size + 2 < w2.heap.size := blk_lt HB2.out.b2
      clear hw2 hrt
      go_upto_region 4 with fail
      go_cut [8] from 27 to 38 (fun v8 wx => v8 = .pointer (some ⟨w2.heap.size, 0, none⟩) ∧ w2.alloc (blO t p 0 x) = wx)
      case first =>
        go_wp2_with fail
        all_goals go_meet
        all_goals exact ⟨rfl, alloc_blO _ (by omega) (by omega) (by omega) (by omega)⟩
      case rest =>
        obtain ⟨rfl, rfl⟩ := hcut
        have HB3 := Lib.hid (HB2.out.up (below_new w2 (blO t p 0 x)))
        have hg3 := heap_alloc_new w2 (blO t p 0 x)
        have hz3 : w2.heap.size < (w2.alloc (blO t p 0 x)).heap.size := by simp
        obtain ⟨g, hg⟩ : ∃ g, g = w2.heap.size := ⟨_, rfl⟩
        rw [← hg] at hg3 hz3
        generalize w2.alloc (blO t p 0 x) = w3 at *
        rw [← hg]
        have hgz : w.heap.size + 2 < g := by omega
        clear hg hxv hpt r0 r1 r2 r3 r4
        obtain ⟨r0, r1, r2, r3, r4⟩ := cells5B HB3.out.b1
        have HG3 := Lib.hid hg3
        have hl0 := lateI_nn r
        obtain ⟨L, hL⟩ : ∃ L, lateI r = L := ⟨_, rfl⟩
        rw [hL] at HBV hl0 HLT
        have hz3' : w.heap.size + 2 < w3.heap.size := by omega
        clear hg3
        go_wp2_with fail
        refine (HLT.out w3).mono ?_; rintro e w4 ⟨rfl, hw4⟩
        have HB4 := Lib.hid (HB3.out.up hw4)
        have hg4 := blk_below HG3.out hw4 hz3
        obtain ⟨q0, q1, q2, q3, q4⟩ := cells4B hg4
        obtain ⟨s0, s1, s2, s3, s4, s5⟩ := cells6 HB4.out.b0
        obtain ⟨o0, o1, o2, o3, o4⟩ := cells4B HB4.out.b2
        have hz4 : g < w4.heap.size := blk_lt hg4
        have HG4 := Lib.hid hg4
        clear hw4 hg4 r0 r1 r2 r3 r4 HLT
        by_cases hc : 0 < p ∧ 0 < L
        · skip
          have hrb := rate_bd HOK.out hl0
          have hpp := pen_prod HOK.out hpb hl0
          have hls := mny_yes HOK.out.2.2.2.2.2.2.2
          obtain ⟨X, hX⟩ : ∃ X, s.lbp * min L s.most = X := ⟨_, rfl⟩
          rw [hX] at hrb hpp
          obtain ⟨N, hN⟩ : ∃ N, p * X / 10000 = N := ⟨_, rfl⟩
          have hNb : 0 ≤ N ∧ N ≤ 67553994410557440 := by omega
          have HP : Hid (penV s p L = min (max N s.least) p) := by show _ = _; rw [penV, if_pos hc, hX, hN]
          have HMD := Lib.hid (mulDiv_any p X 10000 w4 (simple_fineB hpb.1 hrb.1 _))
          have HMV : Hid (mulDivS p X 10000 = (N, 0)) := by
            show _ = _
            have a1 : amt p = true := by simp [amt]; omega
            have a2 : amt X = true := by simp [amt]; omega
            have a3 : amt 10000 = true := by decide
            have a4 : amt N = true := by simp [amt]; omega
            rw [mulDivS, a1, a2, a3, hN]; exact told_yes a4
          obtain ⟨hc1, hc2⟩ := hc
          clear hpp hN
          have hsX : IntKind.i64.wrap (s.lbp * min L s.most) = X := by rw [IntWalk.i64_in _ (by rw [hX]; omega)]; exact hX
          clear hX
          go_wp2_with fail
          refine HMD.out.mono ?_; rintro e w5 ⟨rfl, hw5⟩
          have HB5 := Lib.hid (HB4.out.up hw5)
          have hg5 := blk_below HG4.out hw5 hz4
          obtain ⟨q0, q1, q2, q3, q4⟩ := cells4B hg5
          obtain ⟨s0, s1, s2, s3, s4, s5⟩ := cells6 HB5.out.b0
          obtain ⟨o0, o1, o2, o3, o4⟩ := cells4B HB5.out.b2
          have hz5 : g < w5.heap.size := blk_lt hg5
          have hz6 : w.heap.size + 2 < w5.heap.size := by omega
          have hgne : w.heap.size + 2 ≠ g := by omega
          have hgne' : g ≠ w.heap.size + 2 := by omega
          have HG5 := Lib.hid hg5
          have HFAR := Lib.hid (fun u => blk_far (p := ⟨g, 2, none⟩) HB5.out.b2 hgne u)
          have HSET := Lib.hid (fun u => blk_set HG5.out 2 u)
          clear hw5 hg5
          rw [HMV.out]
          go_wp2_with fail
          refine bodyPost_ret (results_row_tmpB rfl _ _ (w.heap.size + 2) 33 #[.int .i64 t, .int .i64 p, .int .i64 (min (max N s.least) p), .int .i64 x] (0, 0) _ (by rfl) (set4_blkB (HFAR.out _) _ _ _ _) Try.underlying33 rfl (by kernel_rfl)) rfl ?_
          exact ⟨by rw [HE.out, HBV.out, HP.out]; rfl, below_set4 (HB5.out.bel.setCell (by show w.heap.size ≤ g; omega) _) (by omega) _ _ _ _⟩
        · have HP : Hid (penV s p L = 0) := if_neg hc
          by_cases hp0 : 0 < p
          · have hL0 : ¬ 0 < L := fun h => hc ⟨hp0, h⟩
            clear hc
            go_wp2_with fail
            refine bodyPost_ret (results_row_tmpB rfl _ _ (w.heap.size + 2) 33 #[.int .i64 t, .int .i64 p, .int .i64 0, .int .i64 x] (0, 0) _ (by rfl) (set4_blkB HB4.out.b2 _ _ _ _) Try.underlying33 rfl (by kernel_rfl)) rfl ?_
            exact ⟨by rw [HE.out, HBV.out, HP.out]; rfl, below_set4 HB4.out.bel (by omega) _ _ _ _⟩
          · clear hc
            go_wp2_with fail
            refine bodyPost_ret (results_row_tmpB rfl _ _ (w.heap.size + 2) 33 #[.int .i64 t, .int .i64 p, .int .i64 0, .int .i64 x] (0, 0) _ (by rfl) (set4_blkB HB4.out.b2 _ _ _ _) Try.underlying33 rfl (by kernel_rfl)) rfl ?_
            exact ⟨by rw [HE.out, HBV.out, HP.out]; rfl, below_set4 HB4.out.bel (by omega) _ _ _ _⟩
    · have HE : Hid (billS s r = (Bl.zero, 1)) := billS_no2 hrt
      clear hok hok' ht
      go_enter Try.func12, Try.ntmps12
      go_wp2_with fail
      generalize ((w.alloc (schO A n c s)).alloc (retO r 31)).alloc (blO 0 0 0 0) = W at *
      refine HTX.out.mono ?_; rintro e w1 ⟨rfl, hw1⟩
      have HB1 := Lib.hid (HBX.out.up hw1)
      obtain ⟨r0, r1, r2, r3, r4⟩ := cells5B HB1.out.b1
      have hz1 : w.heap.size + 2 < w1.heap.size := blk_lt HB1.out.b2
      clear hw1
      go_wp2_with fail
      refine (aright_any r w1).mono ?_; rintro e w2 ⟨rfl, hw2⟩
      rw [Bool.eq_false_iff.2 hrt]
      have HB2 := Lib.hid (HB1.out.up hw2)
      obtain ⟨o0, o1, o2, o3, o4⟩ := cells4B HB2.out.b2
      have hz2 : w.heap.size + 2 < w2.heap.size := blk_lt HB2.out.b2
      clear hw2 hrt r0 r1 r2 r3 r4
      go_wp2_with fail
      refine bodyPost_ret (results_row_tmpB rfl _ _ (w.heap.size + 2) 33 #[.int .i64 0, .int .i64 0, .int .i64 0, .int .i64 0] (0, 0) _ (by rfl) (set4_blkB HB2.out.b2 _ _ _ _) Try.underlying33 rfl (by kernel_rfl)) rfl ?_
      exact ⟨by rw [HE.out]; rfl, below_set4 HB2.out.bel (by omega) _ _ _ _⟩
  · have ht : taxS s r.inc = (0, 1) := if_neg hok
    rw [ht] at HTX
    have HE : Hid (billS s r = (Bl.zero, 1)) := by
      show _ = _
      by_cases h1 : okS s = true
      · exact billS_no2 (fun h2 => hok (by rw [h1, (retB_yes h2).2.2.2.1]; rfl))
      · exact billS_no1 (fun h2 => h1 (okS_is h2))
    clear hok ht
    go_enter Try.func12, Try.ntmps12
    go_wp2_with fail
    generalize ((w.alloc (schO A n c s)).alloc (retO r 31)).alloc (blO 0 0 0 0) = W at *
    refine HTX.out.mono ?_; rintro e w1 ⟨rfl, hw1⟩
    have HB1 := Lib.hid (HBX.out.up hw1)
    obtain ⟨o0, o1, o2, o3, o4⟩ := cells4B HB1.out.b2
    have hz1 : w.heap.size + 2 < w1.heap.size := blk_lt HB1.out.b2
    clear hw1
    go_wp2_with fail
    refine bodyPost_ret (results_row_tmpB rfl _ _ (w.heap.size + 2) 33 #[.int .i64 0, .int .i64 0, .int .i64 0, .int .i64 0] (0, 0) _ (by rfl) (set4_blkB HB1.out.b2 _ _ _ _) Try.underlying33 rfl (by kernel_rfl)) rfl ?_
    exact ⟨by rw [HE.out]; rfl, below_set4 HB1.out.bel (by omega) _ _ _ _⟩
end Go.Proofs.Ytilcgpaefkapaaa
