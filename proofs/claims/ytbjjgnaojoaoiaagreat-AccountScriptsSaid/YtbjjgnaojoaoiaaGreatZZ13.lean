/- Laws. -/
import Derived.Test.YtbjjgnaojoaoiaaGreatZZ11
import Derived.Test.YtbjjgnaojoaoiaaGreatZZ12
import Derived.Test.YtbjjgnaojoaoiaaGreatZZ8
import Derived.Test.YtbjjgnaojoaoiaaGreatZZ2
import Derived.Test.YtbjjgnaojoaoiaaGreatZZ10
import Derived.Lib.SliceRun
namespace Go.Proofs.YtbjjgnaojoaoiaaGreat
open Go.RowKit Go
set_option linter.unusedVariables false
set_option linter.unusedSimpArgs false
set_option maxHeartbeats 6400000
set_option maxRecDepth 100000
@[reducible] def blV (b : Bl) : Value := .agg #[.int .i64 b.tax, .int .i64 b.prin, .int .i64 b.pen, .int .i64 b.exc]
@[reducible] def blR (p : Bl × Int) : Value := .tuple #[blV p.1, .int .i64 p.2]
theorem results_row_tmpB {P : Program} {fn : Func} {p q : Tmp} {ty : TypeId} (h : fn.results = #[.cell p ty, .tmp q]) (tmps : Array Value) (w : World) (g : Nat) (t : TypeId) (cs : Array Value) (fr : Nat × Nat) (d : TypeDesc)
  (hp : tmps.getD p undef = .pointer (some ⟨g, 0, none⟩)) (hg : w.heap[g]? = some (.cells cs t fr))
  (hu : P.underlying ty = some d) (hd : (match d with | .struct _ | .array _ _ => true | _ => false) = true) (hi : (P.info? ty).map (·.size) = some cs.size) :
  (results fn tmps).run P w = .ok (.tuple #[.agg cs, tmps.getD q undef]) w := by
 have hp' : tmps[p]?.getD undef = .pointer (some ⟨g, 0, none⟩) := by simpa using hp
 simp [results, h, hp', asAddr, run_loadVar_row w g t ty cs fr d hg hu hd hi]
theorem set4_blkB {w1 : World} {v0 v1 v2 v3 : Value} {t g : Nat} (h : w1.heap[g]? = some (.cells #[v0, v1, v2, v3] t (0, 0))) (u0 u1 u2 u3 : Value) :
  ((((w1.setCell ⟨g, 0, none⟩ u0).setCell ⟨g, 1, none⟩ u1).setCell ⟨g, 2, none⟩ u2).setCell ⟨g, 3, none⟩ u3).heap[g]? = some (.cells #[u0, u1, u2, u3] t (0, 0)) := by
 simp [World.setCell, Array.getElem?_modify, h]
theorem below_set4 {B g : Nat} {w w' : World} (h : Below B w w') (hg : B ≤ g) (u0 u1 u2 u3 : Value) : Below B w ((((w'.setCell ⟨g, 0, none⟩ u0).setCell ⟨g, 1, none⟩ u1).setCell ⟨g, 2, none⟩ u2).setCell ⟨g, 3, none⟩ u3) :=
 (((h.setCell hg _).setCell hg _).setCell hg _).setCell hg _
theorem cells4B {w1 : World} {v0 v1 v2 v3 : Value} {t g : Nat} (h : w1.heap[g]? = some (.cells #[v0, v1, v2, v3] t (0, 0))) :
  w1.cell? ⟨g, 0, none⟩ = some v0 ∧ w1.cell? ⟨g, 1, none⟩ = some v1 ∧ w1.cell? ⟨g, 2, none⟩ = some v2 ∧ w1.cell? ⟨g, 3, none⟩ = some v3 ∧ ∀ i, w1.frozen? ⟨g, i, none⟩ = false := by
 simp [World.cell?, World.frozen?, h]
theorem cells5B {w1 : World} {v0 v1 v2 v3 v4 : Value} {t g : Nat} (h : w1.heap[g]? = some (.cells #[v0, v1, v2, v3, v4] t (0, 0))) :
  w1.cell? ⟨g, 0, none⟩ = some v0 ∧ w1.cell? ⟨g, 1, none⟩ = some v1 ∧ w1.cell? ⟨g, 2, none⟩ = some v2 ∧ w1.cell? ⟨g, 3, none⟩ = some v3 ∧ w1.cell? ⟨g, 4, none⟩ = some v4 := by
 simp [World.cell?, h]
@[reducible] def retO (r : Ret) (t : Nat) : Obj := .cells #[.int .i64 r.per, .int .i64 r.due, .int .i64 r.filed, .int .i64 r.inc, .int .i64 r.wh] t
@[reducible] def blO (a b c d : Int) : Obj := .cells #[.int .i64 a, .int .i64 b, .int .i64 c, .int .i64 d] 85
theorem alloc_blO (w : World) {a b c d a' b' c' d' : Int} (h1 : a = a') (h2 : b = b') (h3 : c = c') (h4 : d = d') : w.alloc (blO a b c d) = w.alloc (blO a' b' c' d') := by subst h1 h2 h3 h4; rfl
structure BillBox (w W : World) (A : Option Addr) (n c : Nat) (s : Sch) (r : Ret) : Prop where
 b0 : W.heap[w.heap.size]? = some (schO A n c s)
 b1 : W.heap[w.heap.size + 1]? = some (retO r 37)
 b2 : W.heap[w.heap.size + 2]? = some (blO 0 0 0 0)
 bel : Below w.heap.size w W
theorem BillBox.start (w : World) (A : Option Addr) (n c : Nat) (s : Sch) (r : Ret) : BillBox w (((w.alloc (schO A n c s)).alloc (retO r 37)).alloc (blO 0 0 0 0)) A n c s r :=
 ⟨blk_alloc (blk_alloc (blk_new w _ rfl) _) _, blk_alloc (blk_new _ _ (by simp)) _, blk_new _ _ (by simp), (((Below.refl _ _).alloc (Nat.le_refl _) _).alloc (by simp) _).alloc (by simp; omega) _⟩
theorem BillBox.up {w W W' : World} {A : Option Addr} {n c : Nat} {s : Sch} {r : Ret} (h : BillBox w W A n c s r) (hb : Below W.heap.size W W') : BillBox w W' A n c s r :=
 ⟨blk_below h.b0 hb (blk_lt h.b0), blk_below h.b1 hb (blk_lt h.b1), blk_below h.b2 hb (blk_lt h.b2), h.bel.trans (hb.mono h.bel.size)⟩
theorem simple_fineB {p x : Int} (hp : 0 ≤ p) (hx : 0 ≤ x) (c : Int) : fine p x c := .inl (Int.mul_nonneg hp hx)
theorem bill_any (A : Option Addr) (n c : Nat) (s : Sch) (r : Ret) (w : World) (hn : s.bs.length = n) (hr : Rd w w.heap.size 2 A n (brCs s.bs)) :
  Calls Tryz.prog 35 #[schV A n c s, retV r] w fun e w' => e = .returned (blR (billS s r)) ∧ Below w.heap.size w w' := by
 have hbx := BillBox.start w A n c s r
 have HTX := hyd (tax_any A n c s r.inc _ hn ((hr.below hbx.bel).wider hbx.bel.size))
 have hz0 : w.heap.size + 2 < (((w.alloc (schO A n c s)).alloc (retO r 37)).alloc (blO 0 0 0 0)).heap.size := by simp
 have HBX := hyd hbx
 clear hn hr hbx
 by_cases hok : (okS s && mny r.inc) = true
 · have hok' : okS s = true ∧ mny r.inc = true := by simpa using hok
   have HOK := hyd (okS_yes hok'.1)
   have ht : taxS s r.inc = (taxV s r.inc, 0) := if_pos hok
   rw [ht] at HTX
   by_cases hrt : retB r = true
   · have HE : Hid (billS s r = (billV s r, 0)) := billS_yes HOK.out hrt
     have HBD := hyd (bill_bd HOK.out hrt)
     have hw := mny_yes (retB_yes hrt).2.2.2.2
     have hd1 := (retB_yes hrt).2.1; have hd2 := (retB_yes hrt).2.2.1
     have HLT := hyd (fun wx => late_any r wx hd1 hd2)
     have htb := taxV_bd HOK.out hok'.2
     obtain ⟨t, htv⟩ : ∃ t, taxV s r.inc = t := ⟨_, rfl⟩
     obtain ⟨p, hpv⟩ : ∃ p, prinV s r = p := ⟨_, rfl⟩
     obtain ⟨x, hxv⟩ : ∃ x, max (r.wh - t) 0 = x := ⟨_, rfl⟩
     have hpt : p = max (t - r.wh) 0 := by rw [← hpv, prinV, htv]
     have HBV : Hid (billV s r = ⟨t, p, penV s p (lateI r), x⟩) := by show _ = _; rw [billV, htv, hpv, hxv]
     rw [htv] at HTX htb
     have hpb : 0 ≤ p ∧ p ≤ 1125899906842624 := by omega
     clear hok hok' ht hd1 hd2 htv hpv
     go_enter Tryz.func35, Tryz.ntmps35
     go_wp2_with fail
     generalize ((w.alloc (schO A n c s)).alloc (retO r 37)).alloc (blO 0 0 0 0) = W at *
     refine HTX.out.mono ?_; rintro e w1 ⟨rfl, hw1⟩
     have HB1 := hyd (HBX.out.up hw1)
     obtain ⟨r0, r1, r2, r3, r4⟩ := cells5B HB1.out.b1
     have hz1 : w.heap.size + 2 < w1.heap.size := blk_lt HB1.out.b2
     clear hw1
     go_wp2_with fail
     refine (aright_any r w1).mono ?_; rintro e w2 ⟨rfl, hw2⟩
     rw [hrt]
     have HB2 := hyd (HB1.out.up hw2)
     obtain ⟨r0, r1, r2, r3, r4⟩ := cells5B HB2.out.b1
     have hz2 : w.heap.size + 2 < w2.heap.size := blk_lt HB2.out.b2
     clear hw2 hrt
     go_upto_region 4 with fail
     go_cut [8] from 27 to 38 (fun v8 wx => v8 = .pointer (some ⟨w2.heap.size, 0, none⟩) ∧ w2.alloc (blO t p 0 x) = wx)
     case first =>
      go_wp2_with fail
      all_goals go_meet
      all_goals exact ⟨rfl, alloc_blO _ (by omega) (by omega) (by omega) (by omega)⟩
     case rest =>
      obtain ⟨rfl, rfl⟩ := hcut
      have HB3 := hyd (HB2.out.up (below_new w2 (blO t p 0 x)))
      have hg3 := heap_alloc_new w2 (blO t p 0 x)
      have hz3 : w2.heap.size < (w2.alloc (blO t p 0 x)).heap.size := by simp
      obtain ⟨g, hg⟩ : ∃ g, g = w2.heap.size := ⟨_, rfl⟩
      rw [← hg] at hg3 hz3
      generalize w2.alloc (blO t p 0 x) = w3 at *
      rw [← hg]
      have hgz : w.heap.size + 2 < g := by omega
      clear hg hxv hpt r0 r1 r2 r3 r4
      obtain ⟨r0, r1, r2, r3, r4⟩ := cells5B HB3.out.b1
      have HG3 := hyd hg3
      have hl0 := lateI_nn r
      obtain ⟨L, hL⟩ : ∃ L, lateI r = L := ⟨_, rfl⟩
      rw [hL] at HBV hl0 HLT
      have hz3' : w.heap.size + 2 < w3.heap.size := by omega
      clear hg3
      go_wp2_with fail
      refine (HLT.out w3).mono ?_; rintro e w4 ⟨rfl, hw4⟩
      have HB4 := hyd (HB3.out.up hw4)
      have hg4 := blk_below HG3.out hw4 hz3
      obtain ⟨q0, q1, q2, q3, q4⟩ := cells4B hg4
      obtain ⟨s0, s1, s2, s3, s4, s5⟩ := cells6 HB4.out.b0
      obtain ⟨o0, o1, o2, o3, o4⟩ := cells4B HB4.out.b2
      have hz4 : g < w4.heap.size := blk_lt hg4
      have HG4 := hyd hg4
      clear hw4 hg4 r0 r1 r2 r3 r4 HLT
      by_cases hc : 0 < p ∧ 0 < L
      · skip
        have hrb := rate_bd HOK.out hl0
        have hpp := pen_prod HOK.out hpb hl0
        have hls := mny_yes HOK.out.2.2.2.2.2.2.2
        obtain ⟨X, hX⟩ : ∃ X, s.lbp * min L s.most = X := ⟨_, rfl⟩
        rw [hX] at hrb hpp
        obtain ⟨N, hN⟩ : ∃ N, p * X / 10000 = N := ⟨_, rfl⟩
        have hNb : 0 ≤ N ∧ N ≤ 67553994410557440 := by omega
        have HP : Hid (penV s p L = min (max N s.least) p) := by show _ = _; rw [penV, if_pos hc, hX, hN]
        have HMD := hyd (mulDiv_any p X 10000 w4 (simple_fineB hpb.1 hrb.1 _))
        have HMV : Hid (mulDivS p X 10000 = (N, 0)) := by
         show _ = _
         have a1 : amt p = true := by simp [amt]; omega
         have a2 : amt X = true := by simp [amt]; omega
         have a3 : amt 10000 = true := by decide
         have a4 : amt N = true := by simp [amt]; omega
         rw [mulDivS, a1, a2, a3, hN]; exact told_yes a4
        obtain ⟨hc1, hc2⟩ := hc
        clear hpp hN
        have hsX : IntKind.i64.wrap (s.lbp * min L s.most) = X := by rw [IntWalk.i64_in _ (by rw [hX]; omega)]; exact hX
        clear hX
        go_wp2_with fail
        refine HMD.out.mono ?_; rintro e w5 ⟨rfl, hw5⟩
        have HB5 := hyd (HB4.out.up hw5)
        have hg5 := blk_below HG4.out hw5 hz4
        obtain ⟨q0, q1, q2, q3, q4⟩ := cells4B hg5
        obtain ⟨s0, s1, s2, s3, s4, s5⟩ := cells6 HB5.out.b0
        obtain ⟨o0, o1, o2, o3, o4⟩ := cells4B HB5.out.b2
        have hz5 : g < w5.heap.size := blk_lt hg5
        have hz6 : w.heap.size + 2 < w5.heap.size := by omega
        have hgne : w.heap.size + 2 ≠ g := by omega
        have hgne' : g ≠ w.heap.size + 2 := by omega
        have HG5 := hyd hg5
        have HFAR := hyd (fun u => blk_far (p := ⟨g, 2, none⟩) HB5.out.b2 hgne u)
        have HSET := hyd (fun u => blk_set HG5.out 2 u)
        clear hw5 hg5
        rw [HMV.out]
        go_wp2_with fail
        refine bodyPost_ret (results_row_tmpB rfl _ _ (w.heap.size + 2) 85 #[.int .i64 t, .int .i64 p, .int .i64 (min (max N s.least) p), .int .i64 x] (0, 0) _ (by rfl) (set4_blkB (HFAR.out _) _ _ _ _) Tryz.underlying85 rfl (by kernel_rfl)) rfl ?_
        exact ⟨by rw [HE.out, HBV.out, HP.out]; rfl, below_set4 (HB5.out.bel.setCell (by show w.heap.size ≤ g; omega) _) (by omega) _ _ _ _⟩
      · have HP : Hid (penV s p L = 0) := if_neg hc
        by_cases hp0 : 0 < p
        · have hL0 : ¬ 0 < L := fun h => hc ⟨hp0, h⟩
          clear hc
          go_wp2_with fail
          refine bodyPost_ret (results_row_tmpB rfl _ _ (w.heap.size + 2) 85 #[.int .i64 t, .int .i64 p, .int .i64 0, .int .i64 x] (0, 0) _ (by rfl) (set4_blkB HB4.out.b2 _ _ _ _) Tryz.underlying85 rfl (by kernel_rfl)) rfl ?_
          exact ⟨by rw [HE.out, HBV.out, HP.out]; rfl, below_set4 HB4.out.bel (by omega) _ _ _ _⟩
        · clear hc
          go_wp2_with fail
          refine bodyPost_ret (results_row_tmpB rfl _ _ (w.heap.size + 2) 85 #[.int .i64 t, .int .i64 p, .int .i64 0, .int .i64 x] (0, 0) _ (by rfl) (set4_blkB HB4.out.b2 _ _ _ _) Tryz.underlying85 rfl (by kernel_rfl)) rfl ?_
          exact ⟨by rw [HE.out, HBV.out, HP.out]; rfl, below_set4 HB4.out.bel (by omega) _ _ _ _⟩
   · have HE : Hid (billS s r = (Bl.zero, 1)) := billS_no2 hrt
     clear hok hok' ht
     go_enter Tryz.func35, Tryz.ntmps35
     go_wp2_with fail
     generalize ((w.alloc (schO A n c s)).alloc (retO r 37)).alloc (blO 0 0 0 0) = W at *
     refine HTX.out.mono ?_; rintro e w1 ⟨rfl, hw1⟩
     have HB1 := hyd (HBX.out.up hw1)
     obtain ⟨r0, r1, r2, r3, r4⟩ := cells5B HB1.out.b1
     have hz1 : w.heap.size + 2 < w1.heap.size := blk_lt HB1.out.b2
     clear hw1
     go_wp2_with fail
     refine (aright_any r w1).mono ?_; rintro e w2 ⟨rfl, hw2⟩
     rw [Bool.eq_false_iff.2 hrt]
     have HB2 := hyd (HB1.out.up hw2)
     obtain ⟨o0, o1, o2, o3, o4⟩ := cells4B HB2.out.b2
     have hz2 : w.heap.size + 2 < w2.heap.size := blk_lt HB2.out.b2
     clear hw2 hrt r0 r1 r2 r3 r4
     go_wp2_with fail
     refine bodyPost_ret (results_row_tmpB rfl _ _ (w.heap.size + 2) 85 #[.int .i64 0, .int .i64 0, .int .i64 0, .int .i64 0] (0, 0) _ (by rfl) (set4_blkB HB2.out.b2 _ _ _ _) Tryz.underlying85 rfl (by kernel_rfl)) rfl ?_
     exact ⟨by rw [HE.out]; rfl, below_set4 HB2.out.bel (by omega) _ _ _ _⟩
 · have ht : taxS s r.inc = (0, 1) := if_neg hok
   rw [ht] at HTX
   have HE : Hid (billS s r = (Bl.zero, 1)) := by
    show _ = _
    by_cases h1 : okS s = true
    · exact billS_no2 (fun h2 => hok (by rw [h1, (retB_yes h2).2.2.2.1]; rfl))
    · exact billS_no1 (fun h2 => h1 (okS_is h2))
   clear hok ht
   go_enter Tryz.func35, Tryz.ntmps35
   go_wp2_with fail
   generalize ((w.alloc (schO A n c s)).alloc (retO r 37)).alloc (blO 0 0 0 0) = W at *
   refine HTX.out.mono ?_; rintro e w1 ⟨rfl, hw1⟩
   have HB1 := hyd (HBX.out.up hw1)
   obtain ⟨o0, o1, o2, o3, o4⟩ := cells4B HB1.out.b2
   have hz1 : w.heap.size + 2 < w1.heap.size := blk_lt HB1.out.b2
   clear hw1
   go_wp2_with fail
   refine bodyPost_ret (results_row_tmpB rfl _ _ (w.heap.size + 2) 85 #[.int .i64 0, .int .i64 0, .int .i64 0, .int .i64 0] (0, 0) _ (by rfl) (set4_blkB HB1.out.b2 _ _ _ _) Tryz.underlying85 rfl (by kernel_rfl)) rfl ?_
   exact ⟨by rw [HE.out]; rfl, below_set4 HB1.out.bel (by omega) _ _ _ _⟩
structure Per where
 ret : Ret
 o0 : Int
 o1 : Int
 o2 : Int
 since : Int
 done : Int
 acc : Int
structure Pm where
 id : Int
 day : Int
 amt : Int
 parts : List Dq
 rest : Int
 rev : Bool
structure Ac where
 day : Int
 bp : Int
 cr : Int
 ps : List Per
 ms : List Pm
structure Mv where
 c0 : Int
 c1 : Int
 c2 : Int
 paid : Int
 cr : Int
 cash : Int
def Mv.zero : Mv := ⟨0, 0, 0, 0, 0, 0⟩
def perC (p : Per) : List Value := [.int .i64 p.ret.per, .int .i64 p.ret.due, .int .i64 p.ret.filed, .int .i64 p.ret.inc, .int .i64 p.ret.wh, .int .i64 p.o0, .int .i64 p.o1, .int .i64 p.o2, .int .i64 p.since, .int .i64 p.done, .int .i64 p.acc]
def perCs (ps : List Per) : List Value := ps.flatMap perC
@[reducible] def perV (p : Per) : Value := .agg #[.int .i64 p.ret.per, .int .i64 p.ret.due, .int .i64 p.ret.filed, .int .i64 p.ret.inc, .int .i64 p.ret.wh, .int .i64 p.o0, .int .i64 p.o1, .int .i64 p.o2, .int .i64 p.since, .int .i64 p.done, .int .i64 p.acc]
@[reducible] def mvV (m : Mv) : Value := .agg #[.int .i64 m.c0, .int .i64 m.c1, .int .i64 m.c2, .int .i64 m.paid, .int .i64 m.cr, .int .i64 m.cash]
@[reducible] def mvR (m : Mv) (e : Int) : Value := .tuple #[mvV m, .int .i64 e]
structure PmE where
 p : Pm
 v : Value
def pmC (q : PmE) : List Value := [.int .i64 q.p.id, .int .i64 q.p.day, .int .i64 q.p.amt, q.v, .int .i64 q.p.rest, .bool q.p.rev]
def pmCs (qs : List PmE) : List Value := qs.flatMap pmC
def itemsP (p : Per) : List Dq := [⟨p.ret.due, 0, p.ret.per, p.o0⟩, ⟨p.ret.due, 1, p.ret.per, p.o1⟩, ⟨p.ret.due, 2, p.ret.per, p.o2⟩]
def itemsOf (ps : List Per) : List Dq := ps.flatMap itemsP
theorem itemsOf_len (ps : List Per) : (itemsOf ps).length = ps.length * 3 := by
 unfold itemsOf
 induction ps with
 | nil => rfl
 | cons p ps ih => rw [List.flatMap_cons, List.length_append, ih, List.length_cons, Nat.succ_mul]; simp [itemsP]; omega
theorem itemsOf_take {ps : List Per} {k : Nat} (h : k < ps.length) : itemsOf (ps.take (k + 1)) = itemsOf (ps.take k) ++ itemsP ps[k] := by
 unfold itemsOf
 rw [List.take_succ_eq_append_getElem h, List.flatMap_append]; simp
def nil0 (x : Dq) : Bool := decide (x.opn = 0)
def live (l : List Dq) : List Dq := l.filter fun x => !nil0 x
theorem flat_len {α : Type} {c : α → List Value} {k : Nat} (hc : ∀ x, (c x).length = k) (l : List α) : (l.flatMap c).length = l.length * k := by
 induction l with
 | nil => simp
 | cons x l ih => rw [List.flatMap_cons, List.length_append, ih, hc, List.length_cons, Nat.succ_mul]; omega
theorem flat_split {α : Type} (c : α → List Value) {l : List α} {i : Nat} (h : i < l.length) : l.flatMap c = (l.take i).flatMap c ++ (c l[i] ++ (l.drop (i + 1)).flatMap c) := by
 conv => lhs; rw [← List.take_append_drop i l, List.drop_eq_getElem_cons h]
 rw [List.flatMap_append, List.flatMap_cons]
theorem flat_at {α : Type} {c : α → List Value} {k : Nat} (hc : ∀ x, (c x).length = k) {l : List α} {i j : Nat} (h : i < l.length) (hj : j < k) : (l.flatMap c)[i * k + j]? = (c l[i])[j]? := by
 have h1 : (l.take i).length = i := by rw [List.length_take]; omega
 have h2 := flat_len hc (l.take i)
 rw [h1] at h2
 rw [flat_split c h, List.getElem?_append_right (by omega), h2, show i * k + j - i * k = j by omega, List.getElem?_append_left (by rw [hc]; exact hj)]
theorem flat_set {α : Type} {c : α → List Value} {k : Nat} (hc : ∀ x, (c x).length = k) {l : List α} {i j : Nat} (h : i < l.length) (hj : j < k) {u : Value} {y : α} (hy : (c l[i]).set j u = c y) : (l.flatMap c).set (i * k + j) u = (l.set i y).flatMap c := by
 have h1 : (l.take i).length = i := by rw [List.length_take]; omega
 have h2 := flat_len hc (l.take i)
 rw [h1] at h2
 rw [flat_split c h, flat_split c (l := l.set i y) (i := i) (by simpa using h), List.set_append_right _ _ (by omega), h2, show i * k + j - i * k = j by omega, List.set_append_left _ _ (by rw [hc]; exact hj), hy]
 simp [List.take_set_of_le, List.drop_set_of_lt]
theorem perC_len (p : Per) : (perC p).length = 11 := rfl
theorem pmC_len (q : PmE) : (pmC q).length = 6 := rfl
theorem perCs_len (ps : List Per) : (perCs ps).length = ps.length * 11 := flat_len perC_len ps
theorem pmCs_len (qs : List PmE) : (pmCs qs).length = qs.length * 6 := flat_len pmC_len qs
theorem perCs_at {ps : List Per} {i j : Nat} (h : i < ps.length) (hj : j < 11) : (perCs ps)[i * 11 + j]? = (perC ps[i])[j]? := flat_at perC_len h hj
theorem pmCs_at {qs : List PmE} {i j : Nat} (h : i < qs.length) (hj : j < 6) : (pmCs qs)[i * 6 + j]? = (pmC qs[i])[j]? := flat_at pmC_len h hj
theorem perCs_app (a b : List Per) : perCs (a ++ b) = perCs a ++ perCs b := by simp [perCs]
theorem pmCs_app (a b : List PmE) : pmCs (a ++ b) = pmCs a ++ pmCs b := by simp [pmCs]
def PartsAt (w : World) (v : Value) (l : List Dq) : Prop := ∃ A c, v = .slice A l.length c ∧ l.length ≤ c ∧ c ≤ maxLen ∧
 (0 < l.length → ∃ b cs, A = some ⟨b, 0, none⟩ ∧ w.heap[b]? = some (.cells cs 58 (0, 0)) ∧ cs.toList.take (l.length * 4) = itCs l)
structure OwnV (w : World) (B g : Nat) (S : Ac) (vp vq : Value) (qs : List PmE) : Prop where
 hg : w.heap[g]? = some (.cells #[.int .i64 S.day, .int .i64 S.bp, .int .i64 S.cr, vp, vq] 83 (0, 0))
 hB : B ≤ g
 hp : w.ownsRow B 92 11 vp S.ps.length (perCs S.ps)
 hq : w.ownsRow B 110 6 vq S.ms.length (pmCs qs)
 hm : qs.map PmE.p = S.ms
 parts : ∀ q ∈ qs, PartsAt w q.v q.p.parts
def OwnAt (w : World) (B g : Nat) (S : Ac) : Prop := ∃ vp vq qs, OwnV w B g S vp vq qs
theorem PartsAt.keep {w w' : World} {v : Value} {l : List Dq} (h : PartsAt w v l) (hk : ∀ (b : Nat) (cs : Array Value), w.heap[b]? = some (.cells cs 58 (0, 0)) → w'.heap[b]? = w.heap[b]?) : PartsAt w' v l := by
 obtain ⟨A, c, e, h1, h2, h3⟩ := h
 refine ⟨A, c, e, h1, h2, fun h0 => ?_⟩
 obtain ⟨b, cs, e1, e2, e3⟩ := h3 h0
 exact ⟨b, cs, e1, (hk b cs e2).trans e2, e3⟩
theorem PartsAt.rd {w : World} {A : Option Addr} {n c : Nat} {l : List Dq} (h : PartsAt w (.slice A n c) l) : n = l.length ∧ n ≤ c ∧ c ≤ maxLen ∧ Rd w w.heap.size 4 A n (itCs l) := by
 obtain ⟨A', c', e, h1, h2, h3⟩ := h
 injection e with e1 e2 e3
 subst e1 e2 e3
 refine ⟨rfl, h1, h2, itCs_len l, fun h0 => ?_⟩
 obtain ⟨b, cs, e1, e2, e3⟩ := h3 h0
 refine ⟨b, 0, e1, blk_lt e2, fun j hj => ?_⟩
 rw [blk_cell e2, ← e3, Nat.zero_add, List.getElem?_take, if_pos hj, Array.getElem?_toList]
theorem PartsAt.of_own {w : World} {B : Nat} {v : Value} {l : List Dq} (h : w.ownsRow B 58 4 v l.length (itCs l)) : PartsAt w v l := by
 rcases h.2 with ⟨rfl, hn⟩ | ⟨g, cap, cur, rfl, e2, e3, e4, e5, e6, e7⟩
 · exact ⟨none, 0, by rw [hn], by omega, by simp, fun h0 => by omega⟩
 · exact ⟨_, cap, rfl, e4, e5, fun _ => ⟨g, cur, rfl, e3, e7⟩⟩
theorem PartsAt.form {w : World} {v : Value} {l : List Dq} (h : PartsAt w v l) : ∃ A c, v = .slice A l.length c := let ⟨A, c, e, _⟩ := h; ⟨A, c, e⟩
theorem PartsAt.below {w w' : World} {v : Value} {l : List Dq} (h : PartsAt w v l) (hb : Below w.heap.size w w') : PartsAt w' v l := h.keep fun b cs hc => hb.block b (blk_lt hc)
theorem ne_of_type' {w : World} {b g : Nat} {cs cs' : Array Value} {t t' : Nat} {f f' : Nat × Nat} (h : w.heap[b]? = some (.cells cs t f)) (h' : w.heap[g]? = some (.cells cs' t' f')) (ht : t ≠ t') : b ≠ g := by
 intro e; subst e; rw [h] at h'; injection h' with h'; injection h' with _ h' _; exact ht h'
theorem OwnV.below {w w' : World} {B g : Nat} {S : Ac} {vp vq : Value} {qs : List PmE} (h : OwnV w B g S vp vq qs) (hb : Below w.heap.size w w') : OwnV w' B g S vp vq qs :=
 ⟨blk_below h.hg hb (blk_lt h.hg), h.hB, own_below h.hp hb, own_below h.hq hb, h.hm, fun q hq => (h.parts q hq).below hb⟩
theorem OwnV.mono {w : World} {B B' g : Nat} {S : Ac} {vp vq : Value} {qs : List PmE} (h : OwnV w B g S vp vq qs) (hB : B' ≤ B) : OwnV w B' g S vp vq qs :=
 ⟨h.hg, Nat.le_trans hB h.hB, own_mono h.hp hB, own_mono h.hq hB, h.hm, h.parts⟩
theorem OwnV.len {w : World} {B g : Nat} {S : Ac} {vp vq : Value} {qs : List PmE} (h : OwnV w B g S vp vq qs) : qs.length = S.ms.length := by rw [← h.hm, List.length_map]
theorem OwnV.at_ {w : World} {B g : Nat} {S : Ac} {vp vq : Value} {qs : List PmE} (h : OwnV w B g S vp vq qs) {i : Nat} (hi : i < S.ms.length) : qs[i]'(by rw [h.len]; exact hi) = ⟨S.ms[i], (qs[i]'(by rw [h.len]; exact hi)).v⟩ := by
 have := h.hm
 have h2 : S.ms[i] = (qs[i]'(by rw [h.len]; exact hi)).p := by
  subst_vars
  simp [← this]
 rw [h2]
theorem OwnAt.below {w w' : World} {B g : Nat} {S : Ac} (h : OwnAt w B g S) (hb : Below w.heap.size w w') : OwnAt w' B g S := let ⟨vp, vq, qs, h⟩ := h; ⟨vp, vq, qs, h.below hb⟩
theorem OwnAt.mono {w : World} {B B' g : Nat} {S : Ac} (h : OwnAt w B g S) (hB : B' ≤ B) : OwnAt w B' g S := let ⟨vp, vq, qs, h⟩ := h; ⟨vp, vq, qs, h.mono hB⟩
structure PerAt (w : World) (b off : Nat) (p : Per) : Prop where
 c : ∀ j, j < 11 → w.cell? ⟨b, off + j, none⟩ = (perC p)[j]?
 f : ∀ j, j < 11 → w.frozen? ⟨b, off + j, none⟩ = false
theorem OwnV.per {w : World} {B g : Nat} {S : Ac} {vp vq : Value} {qs : List PmE} (h : OwnV w B g S vp vq qs) {i : Nat} (hi : i < S.ps.length) : ∃ gp cap, vp = .slice (some ⟨gp, 0, none⟩) S.ps.length cap ∧ gp < w.heap.size ∧ B ≤ gp ∧ PerAt w gp (i * 11) S.ps[i] := by
 obtain ⟨gp, cap, rfl, hb, hlt⟩ := h.hp.form (by omega)
 have key : ∀ j, j < 11 → ∃ u, (perC S.ps[i])[j]? = some u ∧ w.cell? ⟨gp, i * 11 + j, none⟩ = some u ∧ w.frozen? ⟨gp, i * 11 + j, none⟩ = false := fun j hj => by
  have e := perCs_at hi hj
  have e2 : (perC S.ps[i])[j]? = some ((perC S.ps[i])[j]'hj) := List.getElem?_eq_getElem hj
  exact ⟨_, e2, own_cell h.hp (e.trans e2)⟩
 refine ⟨gp, cap, rfl, hlt, hb, ⟨fun j hj => ?_, fun j hj => ?_⟩⟩
 · obtain ⟨u, e1, e2, _⟩ := key j hj
   rw [e1, e2]
 · obtain ⟨u, e1, e2, e3⟩ := key j hj
   exact e3
theorem uwithin_yes (z lo hi : Int) (w : World) (h : lo ≤ z ∧ z ≤ hi) : Calls Tryz.prog 34 #[.int .i64 z, .int .i64 lo, .int .i64 hi] w fun e w' => e = .returned (.bool true) ∧ w = w' := by
 obtain ⟨h1, h2⟩ := h
 go_enter Tryz.func34, Tryz.ntmps34
 go_wp2_with fail
 go_ret
 exact ⟨rfl, rfl⟩
theorem uwithin_no (z lo hi : Int) (w : World) (h : ¬ (lo ≤ z ∧ z ≤ hi)) : Calls Tryz.prog 34 #[.int .i64 z, .int .i64 lo, .int .i64 hi] w fun e w' => e = .returned (.bool false) ∧ w = w' := by
 by_cases h1 : lo ≤ z
 · have h2 : hi < z := by omega
   clear h
   go_enter Tryz.func34, Tryz.ntmps34
   go_wp2_with fail
   go_ret
   exact ⟨by first | rfl | (simp; omega), rfl⟩
 · have h2 : z < lo := by omega
   clear h h1
   go_enter Tryz.func34, Tryz.ntmps34
   go_wp2_with fail
   go_ret
   exact ⟨by first | rfl | (simp; omega), rfl⟩
theorem uwithin64_yes (z lo hi : Int) (w : World) (h : lo ≤ z ∧ z ≤ hi) : Calls Tryz.prog 49 #[.int .i64 z, .int .i64 lo, .int .i64 hi] w fun e w' => e = .returned (.bool true) ∧ w = w' := by
 obtain ⟨h1, h2⟩ := h
 go_enter Tryz.func49, Tryz.ntmps49
 go_wp2_with fail
 go_ret
 exact ⟨rfl, rfl⟩
theorem uwithin64_no (z lo hi : Int) (w : World) (h : ¬ (lo ≤ z ∧ z ≤ hi)) : Calls Tryz.prog 49 #[.int .i64 z, .int .i64 lo, .int .i64 hi] w fun e w' => e = .returned (.bool false) ∧ w = w' := by
 by_cases h1 : lo ≤ z
 · have h2 : hi < z := by omega
   clear h
   go_enter Tryz.func49, Tryz.ntmps49
   go_wp2_with fail
   go_ret
   exact ⟨by first | rfl | (simp; omega), rfl⟩
 · have h2 : z < lo := by omega
   clear h h1
   go_enter Tryz.func49, Tryz.ntmps49
   go_wp2_with fail
   go_ret
   exact ⟨by first | rfl | (simp; omega), rfl⟩
def idxI {α : Type} (f : α → Bool) : Nat → List α → Int
 | _, [] => -1
 | k, x :: l => if f x then (k : Int) else idxI f (k + 1) l
theorem idxI_spec {α : Type} (f : α → Bool) : ∀ (l : List α) (k : Nat), (idxI f k l = -1 ∧ ∀ x ∈ l, f x = false) ∨ ∃ i, ∃ h : i < l.length, idxI f k l = ((k + i : Nat) : Int) ∧ f l[i] = true ∧ ∀ j, ∀ hj : j < i, f (l[j]'(Nat.lt_trans hj h)) = false
 | [], k => .inl ⟨rfl, fun x hx => by simp at hx⟩
 | x :: l, k => by
   by_cases hx : f x = true
   · exact .inr ⟨0, by simp, by simp [idxI, hx], by simpa using hx, fun j hj => by omega⟩
   · have hx' : f x = false := by simpa using hx
     have e : idxI f k (x :: l) = idxI f (k + 1) l := by simp [idxI, hx']
     rw [e]
     rcases idxI_spec f l (k + 1) with ⟨h1, h2⟩ | ⟨i, hi, h1, h2, h3⟩
     · refine .inl ⟨h1, fun y hy => ?_⟩
       rcases List.mem_cons.1 hy with rfl | hy
       · exact hx'
       · exact h2 y hy
     · refine .inr ⟨i + 1, by simpa using hi, by rw [h1]; omega, by simpa using h2, fun j hj => ?_⟩
       cases j with
       | zero => simpa using hx'
       | succ j => simpa using h3 j (by omega)
theorem Rd.per {w : World} {B n : Nat} {A : Option Addr} {ps : List Per} (h : Rd w B 11 A n (perCs ps)) {k : Nat} (hk : k < ps.length) : ∃ b off, A = some ⟨b, off, none⟩ ∧ b < B ∧
  w.cell? ⟨b, off + k * 11, none⟩ = some (.int .i64 ps[k].ret.per) ∧ w.cell? ⟨b, off + k * 11 + 1, none⟩ = some (.int .i64 ps[k].ret.due) ∧ w.cell? ⟨b, off + k * 11 + 2, none⟩ = some (.int .i64 ps[k].ret.filed) ∧ w.cell? ⟨b, off + k * 11 + 3, none⟩ = some (.int .i64 ps[k].ret.inc) ∧ w.cell? ⟨b, off + k * 11 + 4, none⟩ = some (.int .i64 ps[k].ret.wh) ∧
  w.cell? ⟨b, off + k * 11 + 5, none⟩ = some (.int .i64 ps[k].o0) ∧ w.cell? ⟨b, off + k * 11 + 6, none⟩ = some (.int .i64 ps[k].o1) ∧ w.cell? ⟨b, off + k * 11 + 7, none⟩ = some (.int .i64 ps[k].o2) ∧ w.cell? ⟨b, off + k * 11 + 8, none⟩ = some (.int .i64 ps[k].since) ∧ w.cell? ⟨b, off + k * 11 + 9, none⟩ = some (.int .i64 ps[k].done) ∧ w.cell? ⟨b, off + k * 11 + 10, none⟩ = some (.int .i64 ps[k].acc) := by
 have hn : ps.length * 11 = n * 11 := by rw [← perCs_len]; exact h.1
 obtain ⟨b, off, e, hb, hc⟩ := h.2 (by omega)
 have key : ∀ j, j < 11 → w.cell? ⟨b, off + k * 11 + j, none⟩ = (perC ps[k])[j]? := fun j hj => by
  have := hc (k * 11 + j) (by omega)
  rw [← Nat.add_assoc] at this
  exact this.trans (perCs_at hk hj)
 exact ⟨b, off, e, hb, key 0 (by omega), key 1 (by omega), key 2 (by omega), key 3 (by omega), key 4 (by omega), key 5 (by omega), key 6 (by omega), key 7 (by omega), key 8 (by omega), key 9 (by omega), key 10 (by omega)⟩
theorem Rd.pm {w : World} {B n : Nat} {A : Option Addr} {qs : List PmE} (h : Rd w B 6 A n (pmCs qs)) {k : Nat} (hk : k < qs.length) : ∃ b off, A = some ⟨b, off, none⟩ ∧ b < B ∧
  w.cell? ⟨b, off + k * 6, none⟩ = some (.int .i64 qs[k].p.id) ∧ w.cell? ⟨b, off + k * 6 + 1, none⟩ = some (.int .i64 qs[k].p.day) ∧ w.cell? ⟨b, off + k * 6 + 2, none⟩ = some (.int .i64 qs[k].p.amt) ∧ w.cell? ⟨b, off + k * 6 + 3, none⟩ = some qs[k].v ∧ w.cell? ⟨b, off + k * 6 + 4, none⟩ = some (.int .i64 qs[k].p.rest) ∧ w.cell? ⟨b, off + k * 6 + 5, none⟩ = some (.bool qs[k].p.rev) := by
 have hn : qs.length * 6 = n * 6 := by rw [← pmCs_len]; exact h.1
 obtain ⟨b, off, e, hb, hc⟩ := h.2 (by omega)
 have key : ∀ j, j < 6 → w.cell? ⟨b, off + k * 6 + j, none⟩ = (pmC qs[k])[j]? := fun j hj => by
  have := hc (k * 6 + j) (by omega)
  rw [← Nat.add_assoc] at this
  exact this.trans (pmCs_at hk hj)
 exact ⟨b, off, e, hb, key 0 (by omega), key 1 (by omega), key 2 (by omega), key 3 (by omega), key 4 (by omega), key 5 (by omega)⟩
theorem OwnV.rdp {w : World} {B g : Nat} {S : Ac} {vp vq : Value} {qs : List PmE} (h : OwnV w B g S vp vq qs) : ∃ A c, vp = .slice A S.ps.length c ∧ S.ps.length ≤ c ∧ Rd w w.heap.size 11 A S.ps.length (perCs S.ps) := by
 obtain ⟨A, c, rfl, _⟩ := own_form h.hp
 refine ⟨A, c, rfl, ?_, Rd.of_own h.hp⟩
 rcases h.hp.2 with ⟨h1, h2⟩ | ⟨g, cap, cur, h1, _, _, h4, _⟩
 · omega
 · injection h1 with _ _ h1; omega
theorem OwnV.rdq {w : World} {B g : Nat} {S : Ac} {vp vq : Value} {qs : List PmE} (h : OwnV w B g S vp vq qs) : ∃ A c, vq = .slice A S.ms.length c ∧ S.ms.length ≤ c ∧ Rd w w.heap.size 6 A S.ms.length (pmCs qs) := by
 obtain ⟨A, c, rfl, _⟩ := own_form h.hq
 refine ⟨A, c, rfl, ?_, Rd.of_own h.hq⟩
 rcases h.hq.2 with ⟨h1, h2⟩ | ⟨g, cap, cur, h1, _, _, h4, _⟩
 · omega
 · injection h1 with _ _ h1; omega
theorem find1_any (p : Per) (n : Int) (gn : Nat) (w : World) (hn : w.cell? ⟨gn, 0, none⟩ = some (.int .i64 n)) (hl : gn < w.heap.size) :
  Calls Tryz.prog 93 #[perV p, .pointer (some ⟨gn, 0, none⟩)] w fun e w' => e = .returned (.bool (decide (p.ret.per = n))) ∧ Below w.heap.size w w' := by
 have hne : gn ≠ w.heap.size := by omega
 go_enter Tryz.func93, Tryz.ntmps93
 go_wp2_with fail
 go_ret
 exact ⟨by first | rfl | (congr 2; exact beq_eq_decide _ _), (Below.refl _ _).alloc (Nat.le_refl _) _⟩
theorem indexPer_any (A : Option Addr) (N c : Nat) (ps : List Per) (n : Int) (gn : Nat) (w : World) (hl : ps.length = N) (hr : Rd w w.heap.size 11 A N (perCs ps)) (hN : N ≤ 1099511627776) (hn : w.cell? ⟨gn, 0, none⟩ = some (.int .i64 n)) (hg : gn < w.heap.size) :
  Calls Tryz.prog 92 #[.slice A N c, .func (.func 93) #[] #[.pointer (some ⟨gn, 0, none⟩)]] w fun e w' => e = .returned (.int .i64 (idxI (fun p : Per => decide (p.ret.per = n)) 0 ps)) ∧ Below w.heap.size w w' := by
 have HW := hyd (fun p (wx : World) (hb : Below w.heap.size w wx) => find1_any p n gn wx ((hb.cell (p := ⟨gn, 0, none⟩) hg).trans hn) (Nat.lt_of_lt_of_le hg hb.size))
 have HL := hyd hl; have HR := hyd hr
 clear hl hr hn hg
 go_enter Tryz.func92, Tryz.ntmps92
 go_wp2_with fail
 go_loopg [5, 8] N (fun g' v5 v8 wr => ∃ k : Nat, g' = N - k ∧ k ≤ N ∧ v8 = .int .i64 k ∧ idxI (fun p : Per => decide (p.ret.per = n)) 0 ps = idxI (fun p : Per => decide (p.ret.per = n)) k (ps.drop k) ∧ Below w.heap.size w wr)
 case atStart => exact ⟨0, rfl, by omega, rfl, rfl, Below.refl _ _⟩
 case round =>
  obtain ⟨k, hgk, hk, rfl, hf, hbr⟩ := hrel
  have HG := hyd hgk; have HF := hyd hf; have HB := hyd hbr
  clear hgk hf
  by_cases hlt : k < N
  · have hl1 : k < ps.length := by rw [HL.out]; exact hlt
    obtain ⟨b, off, rfl, hb, c0, c1, c2, c3, c4, c5, c6, c7, c8, c9, c10⟩ := (HR.out.below hbr).per hl1
    have hd : ps.drop k = ps[k] :: ps.drop (k + 1) := List.drop_eq_getElem_cons hl1
    rw [hd] at HF
    clear hd hbr
    generalize ps[k] = p at *
    have i1 : (0 : Int) ≤ (k : Int) := by omega
    have i2 : (k : Int) < (N : Int) := by omega
    have HWM := hyd (HW.out p wr HB.out)
    by_cases hx : p.ret.per = n
    · rw [decide_eq_true hx] at HWM
      have HF2 : Hid (idxI (fun p : Per => decide (p.ret.per = n)) 0 ps = k) := hyd (by rw [HF.out, idxI, if_pos (by simpa using hx)])
      clear hx HF
      go_wp2_with fail
      refine HWM.out.mono ?_; rintro e w1 ⟨rfl, hw1⟩
      have HW1 := hyd hw1; clear hw1
      go_wp2_with fail
      go_ret
      exact ⟨by rw [HF2.out]; first | done | rfl, HB.out.trans (HW1.out.mono HB.out.size)⟩
    · rw [decide_eq_false hx] at HWM
      have HF2 : Hid (idxI (fun p : Per => decide (p.ret.per = n)) 0 ps = idxI (fun p : Per => decide (p.ret.per = n)) (k + 1) (ps.drop (k + 1))) := hyd (by rw [HF.out, idxI, if_neg (by simpa using hx)])
      clear hx HF
      go_wp2_with fail
      refine HWM.out.mono ?_; rintro e w1 ⟨rfl, hw1⟩
      have HW1 := hyd hw1; clear hw1
      go_wp2_with fail
      go_roundg (N - (k + 1))
      case measure => have := HG.out; omega
      case rel => exact ⟨k + 1, rfl, by omega, by go_num, HF2.out, HB.out.trans (HW1.out.mono HB.out.size)⟩
  · have hkN : k = N := by omega
    subst hkN
    have HF2 : Hid (idxI (fun p : Per => decide (p.ret.per = n)) 0 ps = -1) := hyd (by
     rw [HF.out, List.drop_of_length_le (by rw [HL.out]; exact Nat.le_refl _)]; rfl)
    clear HF hbr
    go_wp2_with fail
    go_ret
    exact ⟨by rw [HF2.out]; first | done | rfl, HB.out⟩
def Ac.place (S : Ac) (n : Int) : Int := idxI (fun p : Per => decide (p.ret.per = n)) 0 S.ps
theorem cells5U {w : World} {v0 v1 v2 v3 v4 : Value} {t g : Nat} (h : w.heap[g]? = some (.cells #[v0, v1, v2, v3, v4] t (0, 0))) :
  w.cell? ⟨g, 0, none⟩ = some v0 ∧ w.cell? ⟨g, 1, none⟩ = some v1 ∧ w.cell? ⟨g, 2, none⟩ = some v2 ∧ w.cell? ⟨g, 3, none⟩ = some v3 ∧ w.cell? ⟨g, 4, none⟩ = some v4 ∧ ∀ i, w.frozen? ⟨g, i, none⟩ = false := by
 simp [World.cell?, World.frozen?, h]
theorem find_any (g B : Nat) (S : Ac) (vp vq : Value) (qs : List PmE) (n : Int) (w : World) (h : OwnV w B g S vp vq qs) (hN : S.ps.length ≤ 1000) :
  Calls Tryz.prog 36 #[.pointer (some ⟨g, 0, none⟩), .int .i64 n] w fun e w' => Below w.heap.size w w' ∧
   ((S.place n = -1 ∧ e = .returned (.pointer none)) ∨ ∃ gp cap i, vp = .slice (some ⟨gp, 0, none⟩) S.ps.length cap ∧ i < S.ps.length ∧ S.place n = (i : Int) ∧ e = .returned (.pointer (some ⟨gp, i * 11, none⟩))) := by
 obtain ⟨A, c, rfl, hc, hr⟩ := h.rdp
 obtain ⟨a0, a1, a2, a3, a4, a5⟩ := cells5U h.hg
 have hgl := blk_lt h.hg
 have hne : g ≠ w.heap.size := by omega
 have HI := hyd (fun (wx : World) h1 h2 h3 => indexPer_any A S.ps.length c S.ps n w.heap.size wx rfl h1 (by omega) h2 h3)
 have HP : Hid (idxI (fun p : Per => decide (p.ret.per = n)) 0 S.ps = S.place n) := hyd rfl
 have HH := hyd h
 have HR := hyd (hr.below ((Below.refl _ _).alloc (Nat.le_refl _) (.cells #[.int .i64 n] 3)))
 rcases idxI_spec (fun p : Per => decide (p.ret.per = n)) S.ps 0 with ⟨h1, _⟩ | ⟨i, hi, h1, _⟩
 · have H1 : Hid (S.place n = -1) := hyd h1
   clear h1 h hr
   go_enter Tryz.func36, Tryz.ntmps36
   go_wp2_with fail
   refine (HI.out _ (HR.out.wider (by simp)) (by simp [go_sem]) (by simp)).mono ?_; rintro e w1 ⟨rfl, hw1⟩
   rw [HP.out, H1.out]
   have HW1 := hyd hw1; clear hw1
   go_wp2_with fail
   go_ret
   exact ⟨((Below.refl _ _).alloc (Nat.le_refl _) _).trans (HW1.out.mono (by simp)), .inl ⟨H1.out, rfl⟩⟩
 · have H1 : Hid (S.place n = (i : Int)) := hyd (by rw [← HP.out, h1]; simp)
   obtain ⟨gp, cap, e, hgp, _, _⟩ := h.per hi
   injection e with e _ e2
   subst e e2
   have i1 : (0 : Int) ≤ (i : Int) := by omega
   have i2 : (i : Int) < (S.ps.length : Int) := by omega
   have HI2 := hyd hi
   clear h1 h hr
   go_enter Tryz.func36, Tryz.ntmps36
   go_wp2_with fail
   refine (HI.out _ (HR.out.wider (by simp)) (by simp [go_sem]) (by simp)).mono ?_; rintro e w1 ⟨rfl, hw1⟩
   rw [HP.out, H1.out]
   obtain ⟨hc1, hf1⟩ := bcell hw1
   have hx1 : g < w.heap.size + 1 := by omega
   have HW1 := hyd hw1; clear hw1
   go_wp2_with fail
   go_ret
   exact ⟨((Below.refl _ _).alloc (Nat.le_refl _) _).trans (HW1.out.mono (by simp)), .inr ⟨gp, c, i, rfl, HI2.out, H1.out, by first | rfl | (congr 4; simp)⟩⟩
def putAt (cs : Array Value) : Nat → List Value → Array Value
 | _, [] => cs
 | o, v :: r => putAt (cs.setIfInBounds o v) (o + 1) r
theorem setCells_at {b t : Nat} {fr : Nat × Nat} : ∀ (vs : List Value) (o : Nat) {w : World} {cs : Array Value}, w.heap[b]? = some (.cells cs t fr) → (w.setCells b o vs).heap[b]? = some (.cells (putAt cs o vs) t fr)
 | [], _, _, _, h => h
 | v :: r, o, w, cs, h => setCells_at r (o + 1) (blk_set h o v)
theorem setCells_far (b : Nat) {k : Nat} (hk : k ≠ b) : ∀ (vs : List Value) (o : Nat) (w : World), (w.setCells b o vs).heap[k]? = w.heap[k]?
 | [], _, _ => rfl
 | v :: r, o, w => (setCells_far b hk r (o + 1) _).trans (Below.heap_setCell w ⟨b, o, none⟩ v k hk)
theorem setCells_below {B b : Nat} (hb : B ≤ b) : ∀ (vs : List Value) (o : Nat) {a w : World}, Below B a w → Below B a (w.setCells b o vs)
 | [], _, _, _, h => h
 | v :: r, o, a, w, h => setCells_below hb r (o + 1) (h.setCell hb v)
theorem putAt_size : ∀ (vs : List Value) (o : Nat) (cs : Array Value), (putAt cs o vs).size = cs.size
 | [], _, _ => rfl
 | v :: r, o, cs => by rw [putAt, putAt_size r]; simp
theorem putAt_list : ∀ (vs : List Value) (o : Nat) (cs : Array Value), o + vs.length ≤ cs.size → (putAt cs o vs).toList = cs.toList.take o ++ vs ++ cs.toList.drop (o + vs.length)
 | [], o, cs, h => by simp [putAt]
 | v :: r, o, cs, h => by
   rw [List.length_cons] at h
   rw [putAt, putAt_list r (o + 1) _ (by simp; omega), Array.toList_setIfInBounds]
   have hl : o < cs.toList.length := by simp; omega
   rw [List.drop_set_of_lt (by omega), List.take_set, List.take_succ_eq_append_getElem hl, List.set_append_right _ _ (by simp; omega)]
   simp only [List.length_take, Nat.min_eq_left (Nat.le_of_lt hl), Nat.sub_self, List.set_cons_zero, List.length_cons, List.append_assoc, List.cons_append, List.nil_append]
   rw [show o + 1 + r.length = o + (r.length + 1) by omega]
theorem run_clear_it (w : World) (ty : TypeId) (b o n c : Nat) (hn : 0 < n) (hc : ∀ j, j < n * 4 → (w.cell? ⟨b, o + j, none⟩).isSome = true) (hf : ∀ j, j < n * 4 → w.frozen? ⟨b, o + j, none⟩ = false) :
  (Builtin.clear_ #[41] ty #[.slice (some ⟨b, o, none⟩) n c]).run Tryz.prog w = .ok (.tuple #[]) (w.setCells b o (List.replicate (n * 4) (.int .i64 0))) := by
 have hzc : (Builtin.zeroCells #[Value.int .i64 0, .int .i64 0, .int .i64 0, .int .i64 0] n).toList = List.replicate (n * 4) (.int .i64 0) := by
  simp [Builtin.zeroCells]
  apply List.ext_getElem
  · simp
  · intro i h1 h2
    simp only [List.getElem_map, List.getElem_range, List.getElem_replicate]
    have h4 : i % 4 < 4 := Nat.mod_lt _ (by omega)
    rcases (show i % 4 = 0 ∨ i % 4 = 1 ∨ i % 4 = 2 ∨ i % 4 = 3 by omega) with e | e | e | e <;> rw [e] <;> rfl
 have hst := run_storeCells_cells (P := Tryz.prog) b o (List.replicate (n * 4) (.int .i64 0)) 0 w (by simpa using hc) (by simpa using hf) (by intro v hv'; rw [List.eq_of_mem_replicate hv']; rfl)
 simp only [Nat.add_zero] at hst
 have hv : ∀ wx, (zeroValue 58).run Tryz.prog wx = .ok (.agg #[.int .i64 0, .int .i64 0, .int .i64 0, .int .i64 0]) wx := fun _ => by kernel_rfl
 obtain ⟨m, rfl⟩ : ∃ m, n = m + 1 := ⟨n - 1, by omega⟩
 have hz' : (Value.agg #[.int .i64 0, .int .i64 0, .int .i64 0, .int .i64 0]).cells = #[Value.int .i64 0, .int .i64 0, .int .i64 0, .int .i64 0] := rfl
 simp [Builtin.clear_, run_underlying Tryz.underlying41, hv, hz', hzc, hst]
theorem itC_len (x : Dq) : (itC x).length = 4 := rfl
theorem it_put4 {l : List Dq} {i : Nat} (h : i < l.length) (x : Dq) : ((((itCs l).set (i * 4) (.int .i64 x.due)).set (i * 4 + 1) (.int .i64 x.kind)).set (i * 4 + 2) (.int .i64 x.per)).set (i * 4 + 3) (.int .i64 x.opn) = itCs (l.set i x) := by
 have h1 : (itCs l).set (i * 4) (.int .i64 x.due) = itCs (l.set i ⟨x.due, l[i].kind, l[i].per, l[i].opn⟩) := flat_set (c := itC) (j := 0) itC_len h (by omega) rfl
 rw [h1]
 have h2 : (itCs (l.set i ⟨x.due, l[i].kind, l[i].per, l[i].opn⟩)).set (i * 4 + 1) (.int .i64 x.kind) = itCs ((l.set i ⟨x.due, l[i].kind, l[i].per, l[i].opn⟩).set i ⟨x.due, x.kind, l[i].per, l[i].opn⟩) := flat_set (c := itC) (j := 1) itC_len (by simpa using h) (by omega) (by simp [itC])
 rw [h2, List.set_set]
 have h3 : (itCs (l.set i ⟨x.due, x.kind, l[i].per, l[i].opn⟩)).set (i * 4 + 2) (.int .i64 x.per) = itCs ((l.set i ⟨x.due, x.kind, l[i].per, l[i].opn⟩).set i ⟨x.due, x.kind, x.per, l[i].opn⟩) := flat_set (c := itC) (j := 2) itC_len (by simpa using h) (by omega) (by simp [itC])
 rw [h3, List.set_set]
 have h4 : (itCs (l.set i ⟨x.due, x.kind, x.per, l[i].opn⟩)).set (i * 4 + 3) (.int .i64 x.opn) = itCs ((l.set i ⟨x.due, x.kind, x.per, l[i].opn⟩).set i x) := flat_set (c := itC) (j := 3) itC_len (by simpa using h) (by omega) (by simp [itC])
 rw [h4, List.set_set]
def Tells (K : Nat) : Prop := (∀ (u : Value) (wx : World), (callFunc K #[u]).run Tryz.prog wx = .ok (.enter K #[u]) wx) ∧ ∀ (x : Dq) (wx : World), Calls Tryz.prog K #[itV x] wx fun e w' => e = .returned (.bool (nil0 x)) ∧ Below wx.heap.size wx w'
theorem items1_tells : Tells 48 := by
 refine ⟨fun u wx => by kernel_rfl, fun x wx => ?_⟩
 go_enter Tryz.func48, Tryz.ntmps48
 go_wp2_with fail
 go_ret
 exact ⟨by first | rfl | (congr 2; exact beq_eq_decide _ _), (Below.refl _ _).alloc (Nat.le_refl _) _⟩
theorem pay1_tells : Tells 112 := by
 refine ⟨fun u wx => by kernel_rfl, fun x wx => ?_⟩
 go_enter Tryz.func112, Tryz.ntmps112
 go_wp2_with fail
 go_ret
 exact ⟨by first | rfl | (congr 2; exact beq_eq_decide _ _), (Below.refl _ _).alloc (Nat.le_refl _) _⟩
theorem indexIt_any (K : Nat) (hK : Tells K) (A : Option Addr) (N c : Nat) (ps : List Dq) (w : World) (hl : ps.length = N) (hr : Rd w w.heap.size 4 A N (itCs ps)) (hN : N ≤ 1099511627776) :
  Calls Tryz.prog 107 #[.slice A N c, .func (.func K) #[] #[]] w fun e w' => e = .returned (.int .i64 (idxI nil0 0 ps)) ∧ Below w.heap.size w w' := by
 obtain ⟨hcf, hK⟩ := hK
 have HW := hyd hK
 have HL := hyd hl; have HR := hyd hr
 clear hl hr hK
 go_enter Tryz.func107, Tryz.ntmps107
 go_wp2_with fail
 go_loopg [5, 8] N (fun g' v5 v8 wr => ∃ k : Nat, g' = N - k ∧ k ≤ N ∧ v8 = .int .i64 k ∧ idxI nil0 0 ps = idxI nil0 k (ps.drop k) ∧ Below w.heap.size w wr)
 case atStart => exact ⟨0, rfl, by omega, rfl, rfl, Below.refl _ _⟩
 case round =>
  obtain ⟨k, hgk, hk, rfl, hf, hbr⟩ := hrel
  have HG := hyd hgk; have HF := hyd hf; have HB := hyd hbr
  clear hgk hf
  by_cases hlt : k < N
  · have hl1 : k < ps.length := by rw [HL.out]; exact hlt
    obtain ⟨b, off, rfl, hb, c0, c1, c2, c3⟩ := (HR.out.below hbr).it hl1
    have hd : ps.drop k = ps[k] :: ps.drop (k + 1) := List.drop_eq_getElem_cons hl1
    rw [hd] at HF
    clear hd hbr
    generalize ps[k] = q at *
    have i1 : (0 : Int) ≤ (k : Int) := by omega
    have i2 : (k : Int) < (N : Int) := by omega
    have HWM := hyd (HW.out q wr)
    cases hx : nil0 q with
    | true =>
      rw [hx] at HWM
      have HF2 : Hid (idxI nil0 0 ps = k) := hyd (by rw [HF.out, idxI, if_pos hx])
      clear hx HF
      go_wp2_with fail
      refine HWM.out.mono ?_; rintro e w1 ⟨rfl, hw1⟩
      have HW1 := hyd hw1; clear hw1
      go_wp2_with fail
      go_ret
      exact ⟨by rw [HF2.out]; first | done | rfl, HB.out.trans (HW1.out.mono HB.out.size)⟩
    | false =>
      rw [hx] at HWM
      have HF2 : Hid (idxI nil0 0 ps = idxI nil0 (k + 1) (ps.drop (k + 1))) := hyd (by rw [HF.out, idxI, if_neg (by rw [hx]; decide)])
      clear hx HF
      go_wp2_with fail
      refine HWM.out.mono ?_; rintro e w1 ⟨rfl, hw1⟩
      have HW1 := hyd hw1; clear hw1
      go_wp2_with fail
      go_roundg (N - (k + 1))
      case measure => have := HG.out; omega
      case rel => exact ⟨k + 1, rfl, by omega, by go_num, HF2.out, HB.out.trans (HW1.out.mono HB.out.size)⟩
  · have hkN : k = N := by omega
    subst hkN
    have HF2 : Hid (idxI nil0 0 ps = -1) := hyd (by
     rw [HF.out, List.drop_of_length_le (by rw [HL.out]; exact Nat.le_refl _)]; rfl)
    clear HF hbr
    go_wp2_with fail
    go_ret
    exact ⟨by rw [HF2.out]; first | done | rfl, HB.out⟩
theorem own_it {w : World} {B g n c : Nat} {l : List Dq} (h : w.ownsRow B 58 4 (.slice (some ⟨g, 0, none⟩) n c) n (itCs l)) {i : Nat} (hi : i < l.length) :
  (w.cell? ⟨g, i * 4, none⟩ = some (.int .i64 l[i].due) ∧ w.cell? ⟨g, i * 4 + 1, none⟩ = some (.int .i64 l[i].kind) ∧ w.cell? ⟨g, i * 4 + 2, none⟩ = some (.int .i64 l[i].per) ∧ w.cell? ⟨g, i * 4 + 3, none⟩ = some (.int .i64 l[i].opn)) ∧ ∀ j, w.frozen? ⟨g, j, none⟩ = false := by
 obtain ⟨h0, h1, h2, h3⟩ := itCs_at l i hi
 refine ⟨⟨(own_cell h h0).1, (own_cell h h1).1, (own_cell h h2).1, (own_cell h h3).1⟩, fun j => ?_⟩
 obtain ⟨_, cs, hcs⟩ := own_block_type h (b := g) rfl
 exact blk_free hcs j
theorem own_cut {w : World} {B g n c : Nat} {ks mid : List Dq} (h : w.ownsRow B 58 4 (.slice (some ⟨g, 0, none⟩) n c) n (itCs (ks ++ mid))) (vs : List Value) (hv : vs.length = mid.length * 4) :
  (w.setCells g (ks.length * 4) vs).ownsRow B 58 4 (.slice (some ⟨g, 0, none⟩) ks.length c) ks.length (itCs ks) := by
 have hl := h.1
 rw [itCs_len, List.length_append] at hl
 refine ⟨itCs_len ks, ?_⟩
 rcases h.2 with ⟨h1, _⟩ | ⟨g', cap', cur, h1, h2, h3, h4, h5, h6, h7⟩
 · cases h1
 · injection h1 with h1 _ h8; injection h1 with h1; injection h1 with h1 _ _; subst h1; subst h8
   refine .inr ⟨g, c, _, rfl, h2, setCells_at vs _ h3, by omega, h5, by rw [putAt_size]; exact h6, ?_⟩
   rw [putAt_list _ _ _ (by omega), List.append_assoc, List.take_append_of_le_length (by simp; omega), List.take_take, Nat.min_self]
   have : cur.toList.take (ks.length * 4) = (cur.toList.take (n * 4)).take (ks.length * 4) := by rw [List.take_take, Nat.min_eq_left (by omega)]
   rw [this, h7, itCs_app, List.take_append_of_le_length (by rw [itCs_len]; exact Nat.le_refl _), List.take_of_length_le (by rw [itCs_len]; exact Nat.le_refl _)]
theorem live_take {s : List Dq} {j : Nat} (h : j < s.length) : live (s.take (j + 1)) = if nil0 s[j] then live (s.take j) else live (s.take j) ++ [s[j]] := by
 unfold live
 rw [List.take_succ_eq_append_getElem h, List.filter_append]
 cases hx : nil0 s[j] <;> simp [hx]
theorem live_all {s : List Dq} (h : ∀ x ∈ s, nil0 x = false) : live s = s := by
 unfold live
 rw [List.filter_eq_self]
 intro x hx; rw [h x hx]; rfl
theorem cells4U {w : World} {v0 v1 v2 v3 : Value} {t g : Nat} (h : w.heap[g]? = some (.cells #[v0, v1, v2, v3] t (0, 0))) : w.cell? ⟨g, 0, none⟩ = some v0 ∧ w.cell? ⟨g, 1, none⟩ = some v1 ∧ w.cell? ⟨g, 2, none⟩ = some v2 ∧ w.cell? ⟨g, 3, none⟩ = some v3 ∧ ∀ i, w.frozen? ⟨g, i, none⟩ = false := by
 simp [World.cell?, World.frozen?, h]
structure DelInv (w wr : World) (B g n c : Nat) (s ks mid : List Dq) (j : Nat) : Prop where
 own : wr.ownsRow B 58 4 (.slice (some ⟨g, 0, none⟩) n c) n (itCs (ks ++ mid ++ s.drop j))
 keq : ks = live (s.take j)
 len : ks.length + mid.length = j
 pos : 0 < mid.length
 le : j ≤ n
 bel : Below B w wr
theorem DelInv.skip {w wr w1 : World} {B g n c : Nat} {s ks mid : List Dq} {j : Nat} (h : DelInv w wr B g n c s ks mid j) (hB : B ≤ wr.heap.size) (hb : Below wr.heap.size wr w1) (hj : j < s.length) (hs : s.length = n) (hx : nil0 s[j] = true) : DelInv w w1 B g n c s ks (mid ++ [s[j]]) (j + 1) :=
 ⟨by
   have e : ks ++ (mid ++ [s[j]]) ++ s.drop (j + 1) = ks ++ mid ++ s.drop j := by rw [List.drop_eq_getElem_cons hj]; simp
   rw [e]; exact own_below h.own hb,
  by rw [live_take hj, if_pos hx]; exact h.keq, by rw [List.length_append, ← Nat.add_assoc, h.len]; rfl, by simp, by omega, h.bel.trans (hb.mono hB)⟩
theorem DelInv.keep {w wr w1 : World} {B g n c : Nat} {s ks mid : List Dq} {j : Nat} (h : DelInv w wr B g n c s ks mid j) (hB : B ≤ wr.heap.size) (hb : Below wr.heap.size wr w1) (hj : j < s.length) (hs : s.length = n) (hx : nil0 s[j] = false) (hgB : B ≤ g) :
  DelInv w ((((w1.setCell ⟨g, ks.length * 4, none⟩ (.int .i64 s[j].due)).setCell ⟨g, ks.length * 4 + 1, none⟩ (.int .i64 s[j].kind)).setCell ⟨g, ks.length * 4 + 2, none⟩ (.int .i64 s[j].per)).setCell ⟨g, ks.length * 4 + 3, none⟩ (.int .i64 s[j].opn)) B g n c s (ks ++ [s[j]]) (mid.drop 1 ++ [s[j]]) (j + 1) := by
 have hl := h.len
 have hp := h.pos
 have ho := own_below h.own hb
 have hn : (ks ++ mid ++ s.drop j).length = n := by simp; omega
 have o1 := own_set ho (i := ks.length * 4) (by omega) (.int .i64 s[j].due)
 have o2 := own_set o1 (i := ks.length * 4 + 1) (by omega) (.int .i64 s[j].kind)
 have o3 := own_set o2 (i := ks.length * 4 + 2) (by omega) (.int .i64 s[j].per)
 have o4 := own_set o3 (i := ks.length * 4 + 3) (by omega) (.int .i64 s[j].opn)
 rw [it_put4 (by omega)] at o4
 have e : (ks ++ mid ++ s.drop j).set ks.length s[j] = (ks ++ [s[j]]) ++ (mid.drop 1 ++ [s[j]]) ++ s.drop (j + 1) := by
  cases mid with
  | nil => simp at hp
  | cons m mt => rw [List.drop_eq_getElem_cons hj]; simp
 rw [e] at o4
 exact ⟨o4, by rw [live_take hj, if_neg (by rw [hx]; decide), ← h.keq], by simp; omega, by simp, by omega, ((((h.bel.trans (hb.mono hB)).setCell hgB _).setCell hgB _).setCell hgB _).setCell hgB _⟩
theorem delete_any (K : Nat) (hK : Tells K) (B : Nat) (A : Option Addr) (n c : Nat) (s : List Dq) (w : World) (hl : s.length = n) (ho : w.ownsRow B 58 4 (.slice A n c) n (itCs s)) (hB : B ≤ w.heap.size) (hn : n ≤ 1000000) :
  Calls Tryz.prog 46 #[.slice A n c, .func (.func K) #[] #[]] w fun e w' => ∃ A' c', e = .returned (.slice A' (live s).length c') ∧ w'.ownsRow B 58 4 (.slice A' (live s).length c') (live s).length (itCs (live s)) ∧ Below B w w' := by
 have HI := hyd (indexIt_any K hK A n c s w hl (Rd.of_own ho) (by omega))
 have HO := hyd ho; have HL := hyd hl
 obtain ⟨hcf, hK⟩ := hK
 have HW := hyd hK
 clear hK
 rcases idxI_spec nil0 s 0 with ⟨h1, h2⟩ | ⟨i, hi, h1, h2, h3⟩
 · have HV := hyd (live_all h2)
   rw [h1] at HI
   clear ho hl h1 h2
   go_enter Tryz.func46, Tryz.ntmps46
   go_wp2_with fail
   refine HI.out.mono ?_; rintro e w1 ⟨rfl, hw1⟩
   have HW1 := hyd hw1; clear hw1
   go_wp2_with fail
   go_ret
   exact ⟨A, c, by rw [HV.out, HL.out]; rfl, by rw [HV.out, HL.out]; exact own_below HO.out HW1.out, HW1.out.mono hB⟩
 · rw [h1] at HI
   simp only [Nat.zero_add] at HI
   have hin : i < n := by omega
   obtain ⟨g, cap, ev, hgB, hgl⟩ := ho.form (by omega)
   injection ev with ev _ ev2
   subst ev ev2
   have HS0 : Hid (∀ w1, Below w.heap.size w w1 → DelInv w w1 B g n c s (s.take i) [s[i]] (i + 1)) := hyd (fun w1 hb => ⟨by
     have e : s.take i ++ [s[i]] ++ s.drop (i + 1) = s := by rw [List.append_assoc, List.singleton_append, ← List.drop_eq_getElem_cons hi, List.take_append_drop]
     rw [e]; exact own_below HO.out hb,
    by rw [live_take hi, if_pos h2, live_all (fun x hx => by obtain ⟨k, hk, rfl⟩ := List.getElem_of_mem hx; rw [List.getElem_take]; exact h3 k (by simp at hk; omega))],
    by rw [List.length_take, Nat.min_eq_left (by omega)]; rfl, by simp, by omega, hb.mono hB⟩)
   have HTK : Hid ((s.take i).length = i) := hyd (by rw [List.length_take]; omega)
   have hne1 : ((i : Int) == -1) = false := by first | (simp; done) | (simp; omega)
   have i0 : (0 : Int) ≤ (i : Int) := by omega
   have i1 : IntKind.i64.wrap ((i : Int) + 1) = ((i + 1 : Nat) : Int) := by rw [IntWalk.i64_in _ (by omega)]; omega
   clear ho hl h1 h2 h3
   go_enter Tryz.func46, Tryz.ntmps46
   go_wp2_with fail
   refine HI.out.mono ?_; rintro e w1 ⟨rfl, hw1⟩
   have HD1 := hyd (HS0.out w1 hw1); clear hw1
   go_wp2_with fail
   go_loopg [5, 6] (n - (i + 1)) (fun gh v5 v6 wr => ∃ (j : Nat) (ks mid : List Dq), gh = n - j ∧ v6 = .int .i64 j ∧ v5 = .int .i64 ks.length ∧ DelInv w wr B g n c s ks mid j)
   case atStart => exact ⟨i + 1, s.take i, [s[i]], rfl, by go_num, by rw [HTK.out], HD1.out⟩
   case round =>
    obtain ⟨j, ks, mid, hgk, rfl, rfl, hinv⟩ := hrel
    have HG := hyd hgk; have HV := hyd hinv
    have hjn := hinv.le
    have hlen := hinv.len
    have hpos := hinv.pos
    have hBr : B ≤ wr.heap.size := Nat.le_trans hB hinv.bel.size
    by_cases hlt : j < n
    · have hjs : j < s.length := by rw [HL.out]; exact hlt
      have hil : (ks ++ mid ++ s.drop j).length = n := by simp; have := HL.out; omega
      have hj1 : j < (ks ++ mid ++ s.drop j).length := by omega
      have hi1 : ks.length < (ks ++ mid ++ s.drop j).length := by omega
      have hej : (ks ++ mid ++ s.drop j)[j] = s[j] := by
       rw [List.getElem_append_right (by simp; omega)]; simp; congr 1; omega
      obtain ⟨⟨c0, c1, c2, c3⟩, hf⟩ := own_it hinv.own hj1
      rw [hej] at c0 c1 c2 c3
      obtain ⟨⟨d0, d1, d2, d3⟩, -⟩ := own_it hinv.own hi1
      generalize (ks ++ mid ++ s.drop j)[ks.length] = y at d0 d1 d2 d3
      have hSK := hyd (fun w1 hb hx => hinv.skip (w1 := w1) hBr hb hjs HL.out hx)
      have hKP := hyd (fun w1 hb hx => hinv.keep (w1 := w1) hBr hb hjs HL.out hx hgB)
      have hgr : g < wr.heap.size := by have := hinv.bel.size; obtain ⟨_, cs, hcs⟩ := own_block_type hinv.own (b := g) rfl; exact blk_lt hcs
      generalize s[j] = x at *
      obtain ⟨ni, hni⟩ : ∃ ni, ks.length = ni := ⟨_, rfl⟩
      rw [hni] at d0 d1 d2 d3 hKP
      have j1 : (0 : Int) ≤ (j : Int) := by omega
      have j2 : (j : Int) < (n : Int) := by omega
      have k1 : (0 : Int) ≤ (ni : Int) := by omega
      have k2 : (ni : Int) < (n : Int) := by omega
      have hne : g ≠ wr.heap.size := by omega
      have jw : IntKind.i64.wrap ((j : Int) + 1) = ((j + 1 : Nat) : Int) := by rw [IntWalk.i64_in _ (by omega)]; omega
      have kw : IntKind.i64.wrap ((ni : Int) + 1) = ((ni + 1 : Nat) : Int) := by rw [IntWalk.i64_in _ (by omega)]; omega
      have HWX := hyd (fun wx => HW.out x wx)
      have HNI := hyd hni
      rw [hni]
      clear hinv hgk hil hj1 hi1 hej hjs
      cases hx : nil0 x with
      | true =>
        have HSK := hyd (fun w1 hb => hSK.out w1 hb hx)
        clear hSK hKP d0 d1 d2 d3
        rw [hx] at HWX
        go_wp2_with fail
        refine (HWX.out _).mono ?_; rintro e w2 ⟨rfl, hw2⟩
        have HW2 := hyd (((Below.refl wr.heap.size wr).alloc (Nat.le_refl _) _).trans (hw2.mono (by simp))); clear hw2
        go_wp2_with fail
        go_roundg (n - (j + 1))
        case measure => have := HG.out; omega
        case rel => exact ⟨j + 1, ks, _, rfl, by first | rfl | go_num, by rw [HNI.out], HSK.out _ HW2.out⟩
      | false =>
        have HKP := hyd (fun w1 hb => hKP.out w1 hb hx)
        clear hSK hKP
        rw [hx] at HWX
        go_wp2_with fail
        refine (HWX.out _).mono ?_; rintro e w2 ⟨rfl, hw2⟩
        have hb2 : Below wr.heap.size wr w2 := ((Below.refl wr.heap.size wr).alloc (Nat.le_refl _) _).trans (hw2.mono (by simp))
        have HW2 := hyd hb2
        obtain ⟨q0, q1, q2, q3, -⟩ := cells4U (blk_below (blk_new wr (.cells #[.int .i64 x.due, .int .i64 x.kind, .int .i64 x.per, .int .i64 x.opn] 58) rfl) hw2 (by simp))
        have e0 := (hb2.cell (p := ⟨g, ni * 4, none⟩) hgr).trans d0
        have e1 := (hb2.cell (p := ⟨g, ni * 4 + 1, none⟩) hgr).trans d1
        have e2 := (hb2.cell (p := ⟨g, ni * 4 + 2, none⟩) hgr).trans d2
        have e3 := (hb2.cell (p := ⟨g, ni * 4 + 3, none⟩) hgr).trans d3
        have f0 : ∀ j, w2.frozen? ⟨g, j, none⟩ = false := fun j => (hb2.frozen (p := ⟨g, j, none⟩) hgr).trans (hf j)
        have hgr2 : g < w2.heap.size := Nat.lt_of_lt_of_le hgr hb2.size
        have hwr2 : wr.heap.size < w2.heap.size := by have := hw2.size; simp at this; omega
        clear hw2 hb2 c0 c1 c2 c3 d0 d1 d2 d3
        go_wp2_with fail
        go_roundg (n - (j + 1))
        case measure => have := HG.out; omega
        case rel => exact ⟨j + 1, ks ++ [x], _, rfl, by first | rfl | go_num, by rw [List.length_append, HNI.out]; first | rfl | go_num, HKP.out _ HW2.out⟩
    · have hjn2 : j = n := by omega
      subst hjn2
      have hdr : s.drop j = [] := List.drop_of_length_le (by rw [HL.out]; exact Nat.le_refl _)
      have hown : wr.ownsRow B 58 4 (.slice (some ⟨g, 0, none⟩) j c) j (itCs (ks ++ mid)) := by have := hinv.own; rw [hdr, List.append_nil] at this; exact this
      have hke : ks = live s := by have := hinv.keq; rw [List.take_of_length_le (by rw [HL.out]; exact Nat.le_refl _)] at this; exact this
      have HKE := hyd hke
      have HCT := hyd (own_cut hown (List.replicate (mid.length * 4) (.int .i64 0)) (by simp))
      have HBR := hyd hinv.bel
      obtain ⟨_, cs, hcs⟩ := own_block_type hown (b := g) rfl
      have hkj : ks.length < j := by omega
      have hjc : j ≤ c := by
       rcases hown.2 with ⟨h1, h2⟩ | ⟨g', cap', cur, h1, _, _, h4, _⟩
       · cases h1
       · injection h1 with _ _ h1; omega
      have hcl : ∀ ty, (Builtin.clear_ #[41] ty #[.slice (some ⟨g, ks.length * 4, none⟩) (j - ks.length) (c - ks.length)]).run Tryz.prog wr = .ok (.tuple #[]) (wr.setCells g (ks.length * 4) (List.replicate ((j - ks.length) * 4) (.int .i64 0))) := fun ty =>
       run_clear_it wr ty g _ _ _ (by omega) (fun t ht => by
        have ht2 : ks.length * 4 + t < (itCs (ks ++ mid)).length := by rw [itCs_len, List.length_append]; omega
        rw [(own_cell hown (List.getElem?_eq_getElem ht2)).1]; rfl) (fun t ht => blk_free hcs _)
      have hml : mid.length = j - ks.length := by omega
      rw [hml] at HCT
      obtain ⟨ni, hni⟩ : ∃ ni, ks.length = ni := ⟨_, rfl⟩
      rw [hni] at hcl HCT hkj
      rw [hni]
      have k1 : (0 : Int) ≤ (ni : Int) := by omega
      have k2 : (ni : Int) ≤ (j : Int) := by omega
      have k3 : (ni : Int) ≤ (c : Int) := by omega
      have HNI := hyd hni
      clear hinv hgk hdr hown hke hml hni hlen hpos
      go_wp2_with fail
      go_ret
      exact ⟨_, c, by rw [← HKE.out, HNI.out]; rfl, by rw [← HKE.out, HNI.out]; exact HCT.out, setCells_below hgB _ _ HBR.out⟩
end Go.Proofs.YtbjjgnaojoaoiaaGreat
