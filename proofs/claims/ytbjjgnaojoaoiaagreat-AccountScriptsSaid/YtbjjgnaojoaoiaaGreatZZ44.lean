/- Laws. -/
import Derived.Test.YtbjjgnaojoaoiaaGreatZZ43
import Derived.Test.YtbjjgnaojoaoiaaGreatZZ30
import Derived.Test.YtbjjgnaojoaoiaaGreatZZT
namespace Go.Proofs.YtbjjgnaojoaoiaaGreat
open Go.RowKit Go
set_option linter.unusedVariables false
set_option linter.unusedSimpArgs false
set_option maxHeartbeats 12800000
set_option maxRecDepth 100000
theorem RefY.put {w w' : World} {B g : Nat} {S : Ac} {vp vq : Value} {qs : List PmE} {l : List (Per × Int)} {us : List (Nat × Value)} (h : RefY w B g S vp vq qs l) (hp : Puts w g us w') :
  w'.heap[g]? = some (.cells (us.foldl (fun a u => a.setIfInBounds u.1 u.2) #[.int .i64 S.day, .int .i64 S.bp, .int .i64 S.cr, vp, vq]) 123 (0, 0)) ∧ w'.ownsRow B 169 13 vp l.length (l.flatMap (perYC S.bp)) ∧ w'.ownsRow B 110 6 vq S.ms.length (pmCs qs) ∧ ∀ q ∈ qs, PartsAt w' q.v q.p.parts := by
 refine ⟨hp.near _ _ _ h.hg, own_apart h.hp hp (fun e => ?_), own_apart h.hq hp (fun e => ?_), fun q hq => (h.parts q hq).puts3 hp h.hg (by decide)⟩
 · obtain ⟨_, cs, hcs⟩ := own_block_type h.hp e; exact ne_of_type' h.hg hcs (by decide) rfl
 · obtain ⟨_, cs, hcs⟩ := own_block_type h.hq e; exact ne_of_type' h.hg hcs (by decide) rfl
theorem RefY.setCr {w w' : World} {B g : Nat} {S : Ac} {vp vq : Value} {qs : List PmE} {l : List (Per × Int)} {cr : Int} (h : RefY w B g S vp vq qs l) (hp : Puts w g [(2, .int .i64 cr)] w') : RefY w' B g { S with cr := cr } vp vq qs l := by
 obtain ⟨h1, h2, h3, h4⟩ := h.put hp
 exact ⟨h1, h.hB, h2, h3, h.hm, h4⟩
theorem RefY.far {w w' : World} {B g gm : Nat} {S : Ac} {vp vq : Value} {qs : List PmE} {l : List (Per × Int)} {us : List (Nat × Value)} {cs : Array Value} {t : Nat} {fr : Nat × Nat} (h : RefY w B g S vp vq qs l) (hp : Puts w gm us w') (hm : w.heap[gm]? = some (.cells cs t fr))
  (h1 : t ≠ 123) (h2 : t ≠ 169) (h3 : t ≠ 110) (h4 : t ≠ 58) : RefY w' B g S vp vq qs l := by
 refine ⟨(hp.far g (blk_lt h.hg) (ne_of_type' h.hg hm (Ne.symm h1))).trans h.hg, h.hB, own_apart h.hp hp (fun e => ?_), own_apart h.hq hp (fun e => ?_), h.hm, fun q hq => (h.parts q hq).puts3 hp hm h4⟩
 · obtain ⟨_, cs, hcs⟩ := own_block_type h.hp e; exact ne_of_type' hm hcs h2 rfl
 · obtain ⟨_, cs, hcs⟩ := own_block_type h.hq e; exact ne_of_type' hm hcs h3 rfl
@[reducible] def arO (m0 m2 : Int) : Obj := .cells #[.int .i64 m0, .int .i64 0, .int .i64 m2] 31 (0, 0)
theorem ar_at {w : World} {ga : Nat} {m0 m2 : Int} (h : w.heap[ga]? = some (arO m0 m2)) {k : Nat} (hk : k < 3) : w.cell? ⟨ga, k, none⟩ = some (.int .i64 (moreK m0 m2 k)) := by
 rcases (show k = 0 ∨ k = 1 ∨ k = 2 by omega) with rfl | rfl | rfl
 · exact (blk_cell h 0).trans rfl
 · exact (blk_cell h 1).trans rfl
 · exact (blk_cell h 2).trans rfl
structure RAmInv (X1 wr : World) (gb gl gm ga gp cap : Nat) (S : Ac) (vq : Value) (qs : List PmE) (m0 m2 : Int) (p : Per) (k : Nat) (m : Mv) (q : Per) : Prop where
 eq : rawK m0 m2 p k = (0, m, q)
 own : RefY wr X1.heap.size gb S (.slice (some ⟨gp, 0, none⟩) (runY S.ps).length cap) vq qs (runY S.ps)
 bel : Below X1.heap.size X1 wr
 bx : wr.heap[gl]? = some (perYO S.bp (q, p.o2))
 mv : wr.heap[gm]? = some (mvO m)
 ar : wr.heap[ga]? = some (arO m0 m2)
theorem RAmInv.up {X1 wr wx : World} {gb gl gm ga gp cap : Nat} {S : Ac} {vq : Value} {qs : List PmE} {m0 m2 : Int} {p : Per} {k : Nat} {m : Mv} {q : Per} (h : RAmInv X1 wr gb gl gm ga gp cap S vq qs m0 m2 p k m q) (hb : Below wr.heap.size wr wx) : RAmInv X1 wx gb gl gm ga gp cap S vq qs m0 m2 p k m q :=
 ⟨h.eq, h.own.below hb, h.bel.trans (hb.mono h.bel.size), blk_below h.bx hb (blk_lt h.bx), blk_below h.mv hb (blk_lt h.mv), blk_below h.ar hb (blk_lt h.ar)⟩
theorem mv_put4 {w : World} {gm : Nat} {m : Mv} {x : Int} (h : w.heap[gm]? = some (mvO m)) : (w.setCell ⟨gm, 4, none⟩ (.int .i64 x)).heap[gm]? = some (mvO { m with cr := x }) := blk_set h 4 (.int .i64 x)
theorem mv_putK {w : World} {gm k : Nat} {m : Mv} {c x : Int} (hk : k < 3) (h : w.heap[gm]? = some (mvO { m with cr := m.cr + x })) : (w.setCell ⟨gm, k, none⟩ (.int .i64 c)).heap[gm]? = some (mvO (m.putK k c x)) := by
 have h1 := blk_set h k (.int .i64 c)
 rcases (show k = 0 ∨ k = 1 ∨ k = 2 by omega) with rfl | rfl | rfl
 · exact h1
 · exact h1
 · exact h1
theorem RAmInv.put {X1 wx W : World} {gb gl gm ga gp cap : Nat} {S : Ac} {vq : Value} {qs : List PmE} {m0 m2 : Int} {p : Per} {k : Nat} {m : Mv} {q : Per} {us : List (Nat × Value)} {c x v : Int} (h : RAmInv X1 wx gb gl gm ga gp cap S vq qs m0 m2 p k m q) (hk : k < 3) (hgl : X1.heap.size ≤ gl) (hgm : X1.heap.size ≤ gm) (hgp : gp ≠ gl)
  (hst : rawK m0 m2 p (k + 1) = (0, m.putK k c x, q.putO (k : Int) v)) (hP : Puts wx gm us W) (hM : W.heap[gm]? = some (mvO (m.putK k c x))) :
  RAmInv X1 (W.setCell ⟨gl, 5 + k, none⟩ (.int .i64 v)) gb gl gm ga gp cap S vq qs m0 m2 p (k + 1) (m.putK k c x) (q.putO (k : Int) v) := by
 have hlm : gl ≠ gm := ne_of_type' h.bx h.mv (by decide)
 have hal : ga ≠ gl := ne_of_type' h.ar h.bx (by decide)
 have ham : ga ≠ gm := ne_of_type' h.ar h.mv (by decide)
 have hb1 := (hP.far gl (blk_lt h.bx) hlm).trans h.bx
 have hw := (h.own.far hP h.mv (by decide) (by decide) (by decide) (by decide)).setFar hgp hb1 (5 + k) (.int .i64 v)
 refine ⟨hst, hw, (h.bel.trans (hP.toBelow hgm h.bel.size)).setCell hgl _, box_putO hk hb1, ?_, ?_⟩
 · exact (Below.heap_setCell W ⟨gl, 5 + k, none⟩ (.int .i64 v) gm (Ne.symm hlm)).trans hM
 · exact (Below.heap_setCell W ⟨gl, 5 + k, none⟩ (.int .i64 v) ga hal).trans ((hP.far ga (blk_lt h.ar) ham).trans h.ar)
structure RAmRet (X1 W : World) (gb gl gm gp cap : Nat) (S : Ac) (vq : Value) (qs : List PmE) (p : Per) (m : Mv) (q : Per) : Prop where
 own : RefY W X1.heap.size gb S (.slice (some ⟨gp, 0, none⟩) (runY S.ps).length cap) vq qs (runY S.ps)
 bel : Below X1.heap.size X1 W
 bx : W.heap[gl]? = some (perYO S.bp (q, p.o2))
 mv : W.heap[gm]? = some (mvO m)
theorem RAmInv.ret {X1 wr W : World} {gb gl gm ga gp cap : Nat} {S : Ac} {vq : Value} {qs : List PmE} {m0 m2 : Int} {p : Per} {k : Nat} {m : Mv} {q : Per} {r : Ret} (h : RAmInv X1 wr gb gl gm ga gp cap S vq qs m0 m2 p k m q) (hgl : X1.heap.size ≤ gl) (hgp : gp ≠ gl)
  (hP : Puts wr gl [(0, .int .i64 r.per), (1, .int .i64 r.due), (2, .int .i64 r.filed), (3, .int .i64 r.inc), (4, .int .i64 r.wh)] W) : RAmRet X1 W gb gl gm gp cap S vq qs p m (q.with_ r) := by
 have hlm : gm ≠ gl := ne_of_type' h.mv h.bx (by decide)
 have e := hP.near _ _ _ h.bx
 exact ⟨h.own.putsFar hP hgp h.bx, h.bel.trans (hP.toBelow hgl h.bel.size), e, (hP.far gm (blk_lt h.mv) hlm).trans h.mv⟩
theorem ram_endA {X W2 : World} {d0 d1 d2 d3 : Int} (hb : Below X.heap.size X W2) :
  Below X.heap.size X (W2.alloc (.cells #[.int .i64 d0, .int .i64 d1, .int .i64 d2, .int .i64 d3] 85)) ∧ (W2.alloc (.cells #[.int .i64 d0, .int .i64 d1, .int .i64 d2, .int .i64 d3] 85)).heap[W2.heap.size]? = some (bilO ⟨d0, d1, d2, d3⟩) :=
 ⟨hb.alloc hb.size _, blk_new _ _ rfl⟩
theorem ram_endB {W W2 : World} {d0 d1 d2 d3 : Int} {x0 x1 x2 x3 : Value} (hb : Below W.heap.size W W2) (hz : W2.heap[W.heap.size]? = some (.cells #[x0, x1, x2, x3] 85 (0, 0))) :
  Below W.heap.size W ((((W2.setCell ⟨W.heap.size, 0, none⟩ (.int .i64 d0)).setCell ⟨W.heap.size, 1, none⟩ (.int .i64 d1)).setCell ⟨W.heap.size, 2, none⟩ (.int .i64 d2)).setCell ⟨W.heap.size, 3, none⟩ (.int .i64 d3)) ∧ ((((W2.setCell ⟨W.heap.size, 0, none⟩ (.int .i64 d0)).setCell ⟨W.heap.size, 1, none⟩ (.int .i64 d1)).setCell ⟨W.heap.size, 2, none⟩ (.int .i64 d2)).setCell ⟨W.heap.size, 3, none⟩ (.int .i64 d3)).heap[W.heap.size]? = some (bilO ⟨d0, d1, d2, d3⟩) := by
 have q := ((((Puts.start (b := W.heap.size) (Below.refl W2.heap.size W2)).set 0 (.int .i64 d0)).set 1 (.int .i64 d1)).set 2 (.int .i64 d2)).set 3 (.int .i64 d3)
 generalize (((W2.setCell ⟨W.heap.size, 0, none⟩ (.int .i64 d0)).setCell ⟨W.heap.size, 1, none⟩ (.int .i64 d1)).setCell ⟨W.heap.size, 2, none⟩ (.int .i64 d2)).setCell ⟨W.heap.size, 3, none⟩ (.int .i64 d3) = Y at *
 exact ⟨hb.trans (q.toBelow (Nat.le_refl _) hb.size), q.near _ _ _ hz⟩
theorem interest_raw {day bp : Int} {p q : Per} (h : PerOk day bp p) (h1 : q.since = p.since) (h2 : q.done = p.done) (h3 : q.acc = p.acc) (hs : q.since ≤ day) : interestS day bp { q with o2 := p.o2 } = (q.acc, 0) := by
 rw [interest_eq day bp (p := p) (q := { q with o2 := p.o2 }) rfl h1 h2, h3]
 exact h.int (by rw [← h1]; exact hs)
theorem ramend_any (g : Nat) (S : Ac) (A : Option Addr) (n c : Nat) (s : Sch) (per inc wh : Int) (w : World) (h : RefAt w 0 g S) (hG : Good S) (hn : s.bs.length = n) (hr : Rd w w.heap.size 2 A n (brCs s.bs)) :
  Calls Tryz.prog 68 #[.pointer (some ⟨g, 0, none⟩), schV A n c s, .int .i64 per, .int .i64 inc, .int .i64 wh] w (RDoesOf w g S (amendS S s per inc wh)) := by
 have hgl := h.lt
 have HV := hyd h
 have hb0 : Below w.heap.size w ((w.alloc (schO A n c s)).alloc mvZ0) := ((Below.refl _ _).alloc (Nat.le_refl _) _).alloc (by simp) _
 have hs0 : ((w.alloc (schO A n c s)).alloc mvZ0).heap[w.heap.size]? = some (schO A n c s) := blk_alloc (blk_new w _ rfl) _
 have hm0 : ((w.alloc (schO A n c s)).alloc mvZ0).heap[w.heap.size + 1]? = some mvZ0 := blk_new _ _ (by simp)
 have hv0 := h.below hb0
 have HPL := hyd (rplace_any g 0 S per _ hv0 (by have := hG.np; omega))
 have hpc := place_cases S per
 have HEG : Hid (∀ er : Int, er ≠ 0 → ∀ X : World, Below w.heap.size w X → RDoesOf w g S (S, Mv.zero, er) (.returned (mvR Mv.zero er)) (put6 X (w.heap.size + 1) Mv.zero)) := hyd (fun er he X hb => take_bad (S' := S) (m := Mv.zero) (gm := w.heap.size + 1) HV.out hb (by omega) he)
 have n1 : g ≠ w.heap.size := by omega
 have n2 : g ≠ w.heap.size + 1 := by omega
 have HB0 := hyd hb0; have HS0 := hyd hs0; have HM0 := hyd hm0; have HV0 := hyd hv0; have HG := hyd hG; have HN := hyd hn; have HR := hyd hr
 clear h hb0 hs0 hm0 hv0 hG hn hr
 go_enter Tryz.func68, Tryz.ntmps68
 go_upto_region 1 with fail
 generalize (w.alloc (schO A n c s)).alloc mvZ0 = X0 at *
 go_wp2_with fail
 refine HPL.out.mono ?_; rintro e w' ⟨rfl, rfl⟩
 rcases hpc with ⟨hpl, _⟩ | ⟨i, hi, hpl, _, _⟩
 · have HO : Hid (amendS S s per inc wh = (S, Mv.zero, 4)) := hyd (by unfold amendS; rw [if_pos hpl])
   obtain ⟨m0, m1, m2, m3, m4, m5, m6⟩ := cells6U HM0.out
   have hml := blk_lt HM0.out
   have HE := hyd (HEG.out 4 (by decide) X0 HB0.out)
   have HM := hyd (put6_at HM0.out Mv.zero)
   rw [hpl]
   clear hpl
   go_wp2_with fail
   rw [HO.out]
   exact mv_ret Mv.zero 4 (w.heap.size + 1) rfl rfl rfl HM.out HE.out
 · have hgd : S.ps.getD (S.place per).toNat Per.zero = S.ps[i]'hi := by
     rw [hpl, Int.toNat_natCast, List.getD_eq_getElem?_getD, List.getElem?_eq_getElem hi]; rfl
   have HO : Hid (amendS S s per inc wh = amend1 S s i (S.ps[i]'hi) inc wh) := hyd (by unfold amendS; rw [if_neg (by omega), hgd, hpl, Int.toNat_natCast])
   obtain ⟨vp, vq, qs, hv⟩ := HV0.out
   obtain ⟨gp, cap, evp, _, _, hper⟩ := hv.per hi
   subst evp
   have hgpl := hper.lt
   obtain ⟨⟨c0, c1, c2, c3, c4, c5, c6, c7⟩, c8, c9, c10, c11, c12⟩ := hper.all
   obtain ⟨a0, a1, a2, a3, a4, a5⟩ := cells5U hv.hg
   have hpok := HG.out.per _ (List.getElem_mem hi)
   obtain ⟨np, hnp⟩ : ∃ np, S.ps.length = np := ⟨_, rfl⟩
   have i1 : (0 : Int) ≤ (i : Int) := by omega
   have i2 : (i : Int) < (np : Int) := by omega
   rw [hnp] at a3
   obtain ⟨p, hp⟩ : ∃ p, S.ps[i]'hi = p := ⟨_, rfl⟩
   rw [hp] at HO hpok c0 c1 c2 c3 c4
   have HNP := hyd hnp; have HPE := hyd hp; have HPOK := hyd hpok; have HI := hyd hi
   have HVS := hyd hv
   have hgX := blk_lt hv.hg
   have hn20 : np ≤ 20 := by have := HG.out.np; omega
   have hd1 : decide ((i : Int) < 0) = false := by simp
   rw [hpl]
   obtain ⟨d0, d1, d2, d3, er, hch⟩ : ∃ d0 d1 d2 d3 er, changeS s p.ret (p.ret.other2 inc wh) = (⟨d0, d1, d2, d3⟩, er) := ⟨_, _, _, _, _, rfl⟩
   have hbf := bnewU X0 (.cells #[.int .i64 p.ret.per, .int .i64 p.ret.due, .int .i64 p.ret.filed, .int .i64 inc, .int .i64 wh] 37)
   have hff := blk_new X0 (.cells #[.int .i64 p.ret.per, .int .i64 p.ret.due, .int .i64 p.ret.filed, .int .i64 inc, .int .i64 wh] 37) rfl
   clear hpl hgd hper hv hpok hnp hp c5 c6 c7 c8 c9 c10 c11 c12
   go_upto_region 7 with fail
   obtain ⟨gf, hgf⟩ : ∃ gf, X0.heap.size = gf := ⟨_, rfl⟩
   have hgpf : gp < gf := by omega
   rw [hgf] at hff ⊢
   generalize X0.alloc (.cells #[.int .i64 p.ret.per, .int .i64 p.ret.due, .int .i64 p.ret.filed, .int .i64 inc, .int .i64 wh] 37) = X at *
   have hbw : Below w.heap.size w X := HB0.out.trans (hbf.mono HB0.out.size)
   have hs1 := blk_below HS0.out hbf (blk_lt HS0.out)
   have hm1 := blk_below HM0.out hbf (blk_lt HM0.out)
   have hv1 := HVS.out.below hbf
   have hrr := (HR.out.below hbw).wider hbw.size
   have y0 := cells_below hbf hgpl c0; have y1 := cells_below hbf hgpl c1; have y2 := cells_below hbf hgpl c2; have y3 := cells_below hbf hgpl c3; have y4 := cells_below hbf hgpl c4
   have x3 := cells_below hbf hgX a3
   obtain ⟨f0, f1, f2, f3, f4, f5⟩ := cells5U hff
   obtain ⟨s0, s1, s2, s3, s4, s5, s6⟩ := cells6U hs1
   have hsl := blk_lt hs1; have hfl := blk_lt hff
   have hgX1 : g < X.heap.size := Nat.lt_of_lt_of_le hgX hbf.size
   have hgpl1 : gp < X.heap.size := Nat.lt_of_lt_of_le hgpl hbf.size
   have HBW := hyd hbw; have HS1 := hyd hs1; have HM1 := hyd hm1; have HV1 := hyd hv1; have HFF := hyd hff; have HCH := hyd hch
   have HC := hyd (fun wx (hb : Below X.heap.size X wx) => rchange_any A n c s p.ret (p.ret.other2 inc wh) wx HN.out ((hrr.below hb).wider hb.size))
   rw [hch] at HC
   have hba : Below X.heap.size X (X.alloc (.cells #[.int .i64 0, .int .i64 0, .int .i64 0, .int .i64 0] 85)) := bnewU _ _
   have HBA := hyd hba
   have HC1 := hyd (HC.out X.drew (Below.refl _ _).drew)
   have HC2 := hyd (HC.out (X.alloc (.cells #[.int .i64 0, .int .i64 0, .int .i64 0, .int .i64 0] 85)).drew hba.drew)
   simp only [Ret.other2] at HC1 HC2
   have HXW2 := hyd (fun (wx : World) (hb : Below X.heap.size X wx) => (⟨cells_below hb hsl s0, cells_below hb hsl s1, cells_below hb hsl s2, cells_below hb hsl s3, cells_below hb hsl s4, cells_below hb hsl s5, cells_below hb hgX1 x3, cells_below hb hgpl1 y0, cells_below hb hgpl1 y1, cells_below hb hgpl1 y2, cells_below hb hgpl1 y3, cells_below hb hgpl1 y4, cells_below hb hfl f0, cells_below hb hfl f1, cells_below hb hfl f2, cells_below hb hfl f3, cells_below hb hfl f4⟩ : wx.cell? ⟨w.heap.size, 0, none⟩ = some (.slice A n c) ∧ wx.cell? ⟨w.heap.size, 1, none⟩ = some (.int .i64 s.ded) ∧ wx.cell? ⟨w.heap.size, 2, none⟩ = some (.int .i64 s.cred) ∧ wx.cell? ⟨w.heap.size, 3, none⟩ = some (.int .i64 s.lbp) ∧ wx.cell? ⟨w.heap.size, 4, none⟩ = some (.int .i64 s.most) ∧ wx.cell? ⟨w.heap.size, 5, none⟩ = some (.int .i64 s.least) ∧ wx.cell? ⟨g, 3, none⟩ = some (.slice (some ⟨gp, 0, none⟩) np cap) ∧ wx.cell? ⟨gp, i * 13, none⟩ = some (.int .i64 p.ret.per) ∧ wx.cell? ⟨gp, i * 13 + 1, none⟩ = some (.int .i64 p.ret.due) ∧ wx.cell? ⟨gp, i * 13 + 2, none⟩ = some (.int .i64 p.ret.filed) ∧ wx.cell? ⟨gp, i * 13 + 3, none⟩ = some (.int .i64 p.ret.inc) ∧ wx.cell? ⟨gp, i * 13 + 4, none⟩ = some (.int .i64 p.ret.wh) ∧ wx.cell? ⟨gf, 0, none⟩ = some (.int .i64 p.ret.per) ∧ wx.cell? ⟨gf, 1, none⟩ = some (.int .i64 p.ret.due) ∧ wx.cell? ⟨gf, 2, none⟩ = some (.int .i64 p.ret.filed) ∧ wx.cell? ⟨gf, 3, none⟩ = some (.int .i64 inc) ∧ wx.cell? ⟨gf, 4, none⟩ = some (.int .i64 wh)))
   have xw := HXW2.out X (Below.refl _ _)
   have xw2 := xw
   have HXW3 := hyd xw
   have HXW4 := hyd xw
   clear hbf hff hgf hbw hs1 hm1 hv1 hrr hch hba a0 a1 a2 a3 a4 a5 c0 c1 c2 c3 c4 HPL HS0 HM0 HV0 HVS HC
   go_cut [14, 15] from 40 to 53 (fun v14 v15 wd => v15 = .int .i64 er ∧ ∃ gd, v14 = .pointer (some ⟨gd, 0, none⟩) ∧ Below X.heap.size X wd ∧ wd.heap[gd]? = some (bilO ⟨d0, d1, d2, d3⟩))
   case first =>
    go_region_held3 (fun w' => w'.cell? ⟨w.heap.size, 0, none⟩ = some (.slice A n c) ∧ w'.cell? ⟨w.heap.size, 1, none⟩ = some (.int .i64 s.ded) ∧ w'.cell? ⟨w.heap.size, 2, none⟩ = some (.int .i64 s.cred) ∧ w'.cell? ⟨w.heap.size, 3, none⟩ = some (.int .i64 s.lbp) ∧ w'.cell? ⟨w.heap.size, 4, none⟩ = some (.int .i64 s.most) ∧ w'.cell? ⟨w.heap.size, 5, none⟩ = some (.int .i64 s.least) ∧ w'.cell? ⟨g, 3, none⟩ = some (.slice (some ⟨gp, 0, none⟩) np cap) ∧ w'.cell? ⟨gp, i * 13, none⟩ = some (.int .i64 p.ret.per) ∧ w'.cell? ⟨gp, i * 13 + 1, none⟩ = some (.int .i64 p.ret.due) ∧ w'.cell? ⟨gp, i * 13 + 2, none⟩ = some (.int .i64 p.ret.filed) ∧ w'.cell? ⟨gp, i * 13 + 3, none⟩ = some (.int .i64 p.ret.inc) ∧ w'.cell? ⟨gp, i * 13 + 4, none⟩ = some (.int .i64 p.ret.wh) ∧ w'.cell? ⟨gf, 0, none⟩ = some (.int .i64 p.ret.per) ∧ w'.cell? ⟨gf, 1, none⟩ = some (.int .i64 p.ret.due) ∧ w'.cell? ⟨gf, 2, none⟩ = some (.int .i64 p.ret.filed) ∧ w'.cell? ⟨gf, 3, none⟩ = some (.int .i64 inc) ∧ w'.cell? ⟨gf, 4, none⟩ = some (.int .i64 wh))
     ((first | (with_reducible exact xw) | exact xw | (with_reducible exact HXW2.out _ HBA.out) | (with_reducible exact HXW2.out _ HBA.out.drew) | exact HXW2.out _ HBA.out | (with_reducible exact xw2) | exact xw2 | exact HXW3.out | exact HXW4.out))
     ((go_at_call 124; first
       | ((with_reducible refine HC1.out.mono ?_); rintro e w2 ⟨rfl, hw2⟩; have HB2 : Hid (Below X.heap.size X w2) := hyd (below_drewA hw2); have xw2 := HXW2.out w2 HB2.out; have HXW3 := hyd (HXW2.out _ (HB2.out.alloc HB2.out.size (.cells #[.int .i64 0, .int .i64 0, .int .i64 0, .int .i64 0] 85))); have HXW4 := hyd (HXW2.out _ (HB2.out.alloc HB2.out.size (.cells #[.int .i64 d0, .int .i64 d1, .int .i64 d2, .int .i64 d3] 85))); clear hw2)
       | ((with_reducible refine HC2.out.mono ?_); rintro e w2 ⟨rfl, hw2⟩; have HB2 : Hid (Below X.heap.size X w2) := hyd (HBA.out.trans ((below_drewA hw2).mono HBA.out.size)); have xw2 := HXW2.out w2 HB2.out
          have HZ := hyd (blk_below (blk_new X (.cells #[.int .i64 0, .int .i64 0, .int .i64 0, .int .i64 0] 85) rfl) (below_drewA hw2) (by simp)); obtain ⟨k0, k1, k2, k3, k4⟩ := cells4G HZ.out; have kl := blk_lt HZ.out
          have HXW3 := hyd (HXW2.out _ ((((HB2.out.setCell (p := ⟨X.heap.size, 0, none⟩) (Nat.le_refl _) (.int .i64 d0)).setCell (p := ⟨X.heap.size, 1, none⟩) (Nat.le_refl _) (.int .i64 d1)).setCell (p := ⟨X.heap.size, 2, none⟩) (Nat.le_refl _) (.int .i64 d2)).setCell (p := ⟨X.heap.size, 3, none⟩) (Nat.le_refl _) (.int .i64 d3))); have HXW4 := HXW3; clear hw2)))
    all_goals go_wp2_with fail
    all_goals go_meet
    all_goals first
     | (have e := ram_endA (d0 := d0) (d1 := d1) (d2 := d2) (d3 := d3) HB2.out
        with_reducible exact ⟨rfl, w2.heap.size, rfl, e.1, e.2⟩)
     | (have e := ram_endB (d0 := d0) (d1 := d1) (d2 := d2) (d3 := d3) HB2.out HZ.out
        with_reducible exact ⟨rfl, X.heap.size, rfl, e.1, e.2⟩)
   case rest =>
    obtain ⟨rfl, gd, rfl, hbd, hbil⟩ := hcut
    have hm2 := blk_below HM1.out hbd (blk_lt HM1.out)
    have hv2 := HV1.out.below hbd
    have hbw2 : Below w.heap.size w wc := HBW.out.trans (hbd.mono HBW.out.size)
    obtain ⟨m0, m1, m2, m3, m4, m5, m6⟩ := cells6U hm2
    have hml := blk_lt hm2
    have HM2 := hyd hm2; have HV2 := hyd hv2; have HBW2 := hyd hbw2; have HBIL := hyd hbil; have HBD := hyd hbd
    clear f0 f1 f2 f3 f4 f5 s0 s1 s2 s3 s4 s5 s6 x3 y0 y1 y2 y3 y4 xw xw2 HXW2 HXW3 HXW4 HC1 HC2 HBA hbd hbil hm2 hv2 hbw2 hsl hfl hgpl hgX hgpf
    by_cases h0 : er = 0
    · subst h0
      obtain ⟨-, -, _, hd2, hd4, hd5⟩ := change_ok (s := s) (p := p.ret) (inc := inc) (wh := wh) (by rw [HCH.out])
      rw [HCH.out] at hd2 hd4 hd5
      simp only at hd2 hd4 hd5
      have hb0 : -2251799813685248 ≤ d2 ∧ d2 ≤ 2251799813685248 := by omega
      have hb2 : -2251799813685248 ≤ d1 - d3 ∧ d1 - d3 ≤ 2251799813685248 := by omega
      have hwm : IntKind.i64.wrap (d1 - d3) = d1 - d3 := IntWalk.i64_in _ (by omega)
      have HCP := hyd (rcopied_any g 0 S wc ⟨_, _, _, HV2.out⟩ HG.out.small)
      have hgwc : g < wc.heap.size := Nat.lt_of_lt_of_le hgX1 HBD.out.size
      clear hd2 hd4 hd5
      go_wp2_with fail
      refine HCP.out.mono ?_; rintro e X2 ⟨gb, rfl, hgbX, hbX2, vp2, vq2, qs2, hv2⟩
      obtain ⟨gp2, cap2, evp2, hcap2, hgp2B, hper2⟩ := hv2.per HI.out
      subst evp2
      rw [HPE.out] at hper2
      obtain ⟨⟨c0, c1, c2, c3, c4, c5, c6, c7⟩, c8, c9, c10, c11, c12⟩ := hper2.all
      have hgp2l := hper2.lt
      obtain ⟨b0, b1, b2, b3, b4, b5⟩ := cells5U hv2.hg
      rw [HNP.out] at b3
      have hgb2 := blk_lt hv2.hg
      have hbil2 := blk_below HBIL.out hbX2 (blk_lt HBIL.out)
      obtain ⟨l0, l1, l2, l3, -⟩ := cells4G hbil2
      have hgdl := blk_lt hbil2
      have hm3 := blk_below HM2.out hbX2 (blk_lt HM2.out)
      have HI0 : Hid (RAmInv wc (((X2.alloc (perYO S.bp (p, p.o2))).alloc mvZ0).alloc (.cells #[.int .i64 d2, .int .i64 0, .int .i64 (d1 - d3)] 31)) gb X2.heap.size (X2.heap.size + 1) (X2.heap.size + 1 + 1) gp2 cap2 S vq2 qs2 d2 (d1 - d3) p 0 Mv.zero p) := hyd (by
       have h0 : Below X2.heap.size X2 (((X2.alloc (perYO S.bp (p, p.o2))).alloc mvZ0).alloc (.cells #[.int .i64 d2, .int .i64 0, .int .i64 (d1 - d3)] 31)) := (((Below.refl _ _).alloc (Nat.le_refl _) _).alloc (by simp) _).alloc (by simp; omega) _
       refine ⟨rfl, ?_, hbX2.trans (h0.mono hbX2.size), blk_alloc (blk_alloc (blk_new X2 _ rfl) _) _, blk_alloc (blk_new _ _ (by simp)) _, blk_new _ _ (by simp)⟩
       have h1 := hv2.toY.below h0
       rw [← runY_len S.ps] at h1
       exact h1)
      have HPOK2 := HPOK
      have hgp2w : gp2 < X2.heap.size := hgp2l
      have hX2s : wc.heap.size ≤ X2.heap.size := hbX2.size
      have HBX2 := hyd hbX2
      clear hv2 hper2 hbil2 hm3 hbX2 HCP b0 b1 b2 b4 HV1 HM1 HS1
      go_upto_block 0 with fail
      obtain ⟨gl, hgl2⟩ : ∃ gl, X2.heap.size = gl := ⟨_, rfl⟩
      rw [hgl2] at HI0 hgp2w hX2s ⊢
      obtain ⟨gm, hgm⟩ : ∃ gm, gl + 1 = gm := ⟨_, rfl⟩
      rw [hgm] at HI0 ⊢
      obtain ⟨ga, hga⟩ : ∃ ga, gm + 1 = ga := ⟨_, rfl⟩
      rw [hga] at HI0 ⊢
      generalize ((X2.alloc (perYO S.bp (p, p.o2))).alloc mvZ0).alloc (.cells #[.int .i64 d2, .int .i64 0, .int .i64 (d1 - d3)] 31) = W0 at *
      have hne1 : gp2 ≠ gl := by omega
      have hne2 : gl ≠ gm := by omega
      have hne3 : gm ≠ gl := by omega
      have hne4 : gp2 ≠ gm := by omega
      have hgne : g ≠ gb := by omega
      have hgmg : gm ≠ g := by omega
      have hgmo : gm ≠ w.heap.size + 1 := by have := blk_lt HM2.out; omega
      have hgmw : wc.heap.size ≤ gm := by omega
      have HB2 := hyd hgp2B
      clear c0 c1 c2 c3 c4 c5 c6 c7 c8 c9 c10 c11 c12 hgp2l b3 b5 hgb2 l0 l1 l2 l3 hgdl hgl2 hgm hga hgp2w HBX2 hcap2 hwm hgp2B m0 m1 m2 m3 m4 m5 m6 hml
      go_wp2_with fail
      go_loopg [20] 3 (fun gh v20 wr => ∃ (k : Nat) (m : Mv) (q : Per), gh = 3 - k ∧ k ≤ 3 ∧ v20 = .int .i64 k ∧ RAmInv wc wr gb gl gm ga gp2 cap2 S vq2 qs2 d2 (d1 - d3) p k m q)
      case atStart => exact ⟨0, _, _, rfl, by omega, rfl, HI0.out⟩
      case round =>
       obtain ⟨k, m, q, hgk, hk, rfl, hinv⟩ := hrel
       have HGK := hyd hgk; have HV := hyd hinv
       have hok := rawK_ok HPOK.out.b0 HPOK.out.b1 HPOK.out.b2 hb0 hb2 k hk (by rw [hinv.eq])
       rw [hinv.eq] at hok
       by_cases hlt : k < 3
       · -- <heavy>
         have hob := raw_opn hok (j := k)
         have hmb := moreK_bd hb0 hb2 k
         have hcr := hok.cr
         simp only at hob hcr
         have bk := box_kind hlt hinv.bx
         have rk := ar_at hinv.ar hlt
         obtain ⟨o, ho⟩ : ∃ o, q.opn (k : Int) = o := ⟨_, rfl⟩
         obtain ⟨mo, hmo⟩ : ∃ mo, moreK d2 (d1 - d3) k = mo := ⟨_, rfl⟩
         rw [ho] at bk hob; rw [hmo] at rk hmb
         have hgll := blk_lt hinv.bx; have hgml := blk_lt hinv.mv; have hgal := blk_lt hinv.ar
         have k1 : (0 : Int) ≤ (k : Int) := by omega
         have k2 : (k : Int) < 3 := by omega
         have hwn : IntKind.i64.wrap (o + mo) = o + mo := IntWalk.i64_in _ (by omega)
         have HOE := hyd ho; have HMO := hyd hmo
         have hcr2 : 0 ≤ m.cr ∧ m.cr ≤ 6755399441055744 := by omega
         clear hgk hinv hok ho hmo hcr
         go_upto_region 17 with fail
         go_quiet (fail)
         have HQ := hyd (HV.out.up (below_drewN (Below.refl _ _) nq))
         clear bk rk hgll hgml hgal hwn
         generalize wr.drewN nq = Y at *
         have hinv := HQ.out
         have bk := box_kind hlt hinv.bx
         rw [HOE.out] at bk
         have xf := fun j => blk_free hinv.bx j
         have mf := fun j => blk_free hinv.mv j
         have hgll := blk_lt hinv.bx; have hgml := blk_lt hinv.mv
         by_cases hneg : o + mo < 0
         · have t1 : decide (o + mo < 0) = true := by simpa using hneg
           have hst := rawK_step hinv.eq (by rw [HOE.out, HMO.out]; omega)
           rw [HOE.out, HMO.out, show max 0 (o + mo) = 0 by omega, show max 0 (-(o + mo)) = -(o + mo) by omega, show (0 : Int) - o = -o by omega] at hst
           have m4 : Y.cell? ⟨gm, 4, none⟩ = some (.int .i64 m.cr) := (blk_cell hinv.mv 4).trans rfl
           have hw4 : IntKind.i64.wrap (m.cr - (o + mo)) = m.cr + -(o + mo) := by rw [show m.cr - (o + mo) = m.cr + -(o + mo) by omega]; exact IntWalk.i64_in _ (by omega)
           have hP1 : Puts Y gm [(4, .int .i64 (m.cr + -(o + mo)))] (Y.setCell ⟨gm, 4, none⟩ (.int .i64 (m.cr + -(o + mo)))) := (Puts.start (Below.refl _ _)).set 4 _
           have hm1 := mv_put4 (x := m.cr + -(o + mo)) hinv.mv
           have HST := hyd hst; have HP1 := hyd hP1; have HMV1 := hyd hm1
           clear hinv hst hP1 hm1
           go_upto_region 20 with fail
           generalize Y.setCell ⟨gm, 4, none⟩ (.int .i64 (m.cr + -(o + mo))) = W1 at *
           have hbx1 := (HP1.out.far gl hgll hne2).trans HQ.out.bx
           have bk1 := box_kind hlt hbx1
           rw [HOE.out] at bk1
           have xf1 := fun j => blk_free hbx1 j
           have mf1 := fun j => blk_free HMV1.out j
           have hgll1 := blk_lt hbx1; have hgml1 := blk_lt HMV1.out
           have ck : ∃ u, W1.cell? ⟨gm, k, none⟩ = some u := by
            rw [blk_cell HMV1.out k]
            rcases (show k = 0 ∨ k = 1 ∨ k = 2 by omega) with rfl | rfl | rfl
            · exact ⟨_, rfl⟩
            · exact ⟨_, rfl⟩
            · exact ⟨_, rfl⟩
           obtain ⟨u0, ck⟩ := ck
           have hw6 : IntKind.i64.wrap (-o) = -o := IntWalk.i64_in _ (by omega)
           have hw5 : IntKind.i64.wrap (0 - o) = -o := by rw [show (0 : Int) - o = -o by omega]; exact hw6
           have HFIN := hyd (HQ.out.put hlt hX2s hgmw hne1 HST.out (HP1.out.set k (.int .i64 (-o))) (mv_putK hlt HMV1.out))
           clear bk xf mf m4 hgll hgml hbx1 HP1 HMV1 hw4
           go_wp2_with fail
           go_roundg (3 - (k + 1))
           case measure => have := HGK.out; omega
           case rel => exact ⟨k + 1, _, _, rfl, by omega, by go_num, HFIN.out⟩
         · have t1 : decide (o + mo < 0) = false := by simpa using hneg
           by_cases hov : 4611686018427387904 < o + mo
           · have t2 : decide (o + mo > 4611686018427387904) = true := by simpa using hov
             have hmw := blk_below HM2.out hinv.bel (blk_lt HM2.out)
             obtain ⟨m0, m1, m2, m3, m4, m5, m6⟩ := cells6U hmw
             have hml := blk_lt hmw
             have HE := hyd (HEG.out 2 (by decide) Y (HBW2.out.trans (hinv.bel.mono HBW2.out.size)))
             have HM := hyd (put6_at hmw Mv.zero)
             have hov2 := rawK_over hinv.eq (by rw [HOE.out, HMO.out]; exact hov) hlt
             obtain ⟨e3, m3', q3, hr3⟩ : ∃ e m q, rawK d2 (d1 - d3) p 3 = (e, m, q) := ⟨_, _, _, rfl⟩
             have HO2 : Hid (amendS S s per inc wh = (S, Mv.zero, 2)) := hyd (by
              rw [HO.out, amend1_take HG.out.cr HPOK.out HCH.out hr3]
              rw [hr3] at hov2
              rw [if_pos hov2])
             clear hinv hmw hov hov2 hr3 bk
             go_wp2_with fail
             rw [HO2.out]
             exact mv_ret Mv.zero 2 (w.heap.size + 1) rfl rfl rfl HM.out HE.out
           · have t2 : decide (o + mo > 4611686018427387904) = false := by simpa using hov
             have hst := rawK_step hinv.eq (by rw [HOE.out, HMO.out]; exact hov)
             rw [HOE.out, HMO.out, show max 0 (o + mo) = o + mo by omega, show max 0 (-(o + mo)) = 0 by omega] at hst
             have ck : ∃ u, Y.cell? ⟨gm, k, none⟩ = some u := by
              rw [blk_cell hinv.mv k]
              rcases (show k = 0 ∨ k = 1 ∨ k = 2 by omega) with rfl | rfl | rfl
              · exact ⟨_, rfl⟩
              · exact ⟨_, rfl⟩
              · exact ⟨_, rfl⟩
             obtain ⟨u0, ck⟩ := ck
             have hw5 : IntKind.i64.wrap (o + mo - o) = o + mo - o := IntWalk.i64_in _ (by omega)
             have hw6 : IntKind.i64.wrap mo = o + mo - o := by rw [show o + mo - o = mo by omega]; exact IntWalk.i64_in _ (by omega)
             have hm1 : Y.heap[gm]? = some (mvO { m with cr := m.cr + 0 }) := by rw [Int.add_zero]; exact hinv.mv
             have HFIN := hyd (hinv.put hlt hX2s hgmw hne1 hst ((Puts.start (Below.refl Y.heap.size Y)).set k (.int .i64 (o + mo - o))) (mv_putK hlt hm1))
             clear hinv hst hm1
             go_wp2_with fail
             go_roundg (3 - (k + 1))
             case measure => have := HGK.out; omega
             case rel => exact ⟨k + 1, _, _, rfl, by omega, by go_num, HFIN.out⟩
       · have hk3 : k = 3 := by omega
         subst hk3
         have hr3 := hinv.eq
         have HO3 : Hid (amendS S s per inc wh = takeS S { S with ps := S.ps.set i (prinP S.day (q.with_ (p.ret.other2 inc wh)) p.o2), cr := S.cr + m.cr } m 0) := hyd (by
          rw [HO.out, amend1_take HG.out.cr HPOK.out HCH.out hr3, if_neg (by simp)])
         have hbX : Below X.heap.size X wr := HBD.out.trans (hinv.bel.mono HBD.out.size)
         have hffw := blk_below HFF.out hbX (blk_lt HFF.out)
         obtain ⟨f0, f1, f2, f3, f4, -⟩ := cells5U hffw
         have hfl := blk_lt hffw
         have nfl : gf ≠ gl := by have h1 := blk_lt HFF.out; have h2 := HBD.out.size; omega
         have x0 := blk_cell hinv.bx 0; have x1 := blk_cell hinv.bx 1; have x2 := blk_cell hinv.bx 2; have x3 := blk_cell hinv.bx 3; have x4 := blk_cell hinv.bx 4
         simp only [List.getElem?_toArray, List.getElem?_cons_succ, List.getElem?_cons_zero] at x0 x1 x2 x3 x4
         have xf := fun j => blk_free hinv.bx j
         have hgll := blk_lt hinv.bx
         have hP : Puts wr gl [(0, .int .i64 p.ret.per), (1, .int .i64 p.ret.due), (2, .int .i64 p.ret.filed), (3, .int .i64 inc), (4, .int .i64 wh)] (((((wr.setCell ⟨gl, 0, none⟩ (.int .i64 p.ret.per)).setCell ⟨gl, 1, none⟩ (.int .i64 p.ret.due)).setCell ⟨gl, 2, none⟩ (.int .i64 p.ret.filed)).setCell ⟨gl, 3, none⟩ (.int .i64 inc)).setCell ⟨gl, 4, none⟩ (.int .i64 wh)) := (((((Puts.start (Below.refl _ _)).set 0 _).set 1 _).set 2 _).set 3 _).set 4 _
         have HRET := hyd (hinv.ret (r := p.ret.other2 inc wh) hX2s hne1 hP)
         have hcr3 := hok.cr
         simp only at hcr3
         have HB0' := hyd hok.b0; have HB1' := hyd hok.b1; have HB2' := hyd hok.b2
         have HSI := hyd (And.intro hok.since (And.intro hok.done hok.acc))
         simp only at HB0' HB1' HB2' HSI
         clear hgk hok hinv hbX hffw hP hr3 HI0 HV
         go_upto_region 26 with fail
         clear f0 f1 f2 f3 f4 x0 x1 x2 x3 x4 xf hgll hfl nfl
         generalize ((((wr.setCell ⟨gl, 0, none⟩ (.int .i64 p.ret.per)).setCell ⟨gl, 1, none⟩ (.int .i64 p.ret.due)).setCell ⟨gl, 2, none⟩ (.int .i64 p.ret.filed)).setCell ⟨gl, 3, none⟩ (.int .i64 inc)).setCell ⟨gl, 4, none⟩ (.int .i64 wh) = Y at *
         obtain ⟨p6, hp6⟩ : ∃ p6, q.with_ (p.ret.other2 inc wh) = p6 := ⟨_, rfl⟩
         have HP6 := hyd hp6
         rw [hp6] at HRET HO3
         have HX6 := hyd HRET.out.bx; have HY6 := hyd HRET.out.own
         clear hp6
         have x0 := blk_cell HX6.out 0; have x1 := blk_cell HX6.out 1; have x2 := blk_cell HX6.out 2; have x3 := blk_cell HX6.out 3; have x4 := blk_cell HX6.out 4; have x5 := blk_cell HX6.out 5; have x6 := blk_cell HX6.out 6
         have x7 := blk_cell HX6.out 7; have x8 := blk_cell HX6.out 8; have x9 := blk_cell HX6.out 9; have x10 := blk_cell HX6.out 10; have x11 := blk_cell HX6.out 11; have x12 := blk_cell HX6.out 12
         simp only [List.getElem?_toArray, List.getElem?_cons_succ, List.getElem?_cons_zero] at x0 x1 x2 x3 x4 x5 x6 x7 x8 x9 x10 x11 x12
         have hxl := blk_lt HX6.out
         obtain ⟨a0, a1, a2, a3, a4, a5⟩ := cells5U HY6.out.hg
         rw [runY_len, HNP.out] at a3
         have hgl3 := blk_lt HY6.out.hg
         obtain ⟨gp', cap', e1, _, hgpB, hpr⟩ := HY6.out.per (i := i) (by rw [runY_len]; exact HI.out)
         injection e1 with e1 _ e3; injection e1 with e1; injection e1 with e1 _ _; subst e1; subst e3
         obtain ⟨⟨c0, c1, c2, c3, c4, c5, c6, c7⟩, c8, c9, c10, c11, c12⟩ := hpr.all
         have f0 := hpr.f 0 (by omega); have f1 := hpr.f 1 (by omega); have f2 := hpr.f 2 (by omega); have f3 := hpr.f 3 (by omega); have f4 := hpr.f 4 (by omega); have f5 := hpr.f 5 (by omega); have f6 := hpr.f 6 (by omega)
         have f7 := hpr.f 7 (by omega); have f8 := hpr.f 8 (by omega); have f9 := hpr.f 9 (by omega); have f10 := hpr.f 10 (by omega); have f11 := hpr.f 11 (by omega); have f12 := hpr.f 12 (by omega)
         have hgpl2 := hpr.lt
         rw [Nat.add_zero] at f0
         have HYF : Hid (RefY (put13x Y gp2 (i * 13) S.bp (p6, p.o2)).drew wc.heap.size gb S (.slice (some ⟨gp2, 0, none⟩) (runY S.ps).length cap2) vq2 qs2 ((runY S.ps).set i (p6, p.o2)) ∧ Below wc.heap.size wc (put13x Y gp2 (i * 13) S.bp (p6, p.o2)).drew ∧ (put13x Y gp2 (i * 13) S.bp (p6, p.o2)).drew.heap[gm]? = some (mvO m)) := hyd (by
          rw [put13x_eq]
          obtain ⟨_, cs, hcs⟩ := own_block_type HY6.out.hp (b := gp2) rfl
          have h1 := HY6.out.setPer (i := i) (by rw [runY_len]; exact HI.out) (p6, p.o2)
          have h2 := below_many hgpB (perYC S.bp (p6, p.o2)) Y (i * 13) HRET.out.bel
          have h3 := (putMany_far gp2 (perYC S.bp (p6, p.o2)) Y (i * 13) gm (ne_of_type' HRET.out.mv hcs (by decide))).trans HRET.out.mv
          generalize putMany Y gp2 (i * 13) (perYC S.bp (p6, p.o2)) = V at *
          exact ⟨h1.below (Below.refl _ _).drew, h2.drew, blk_below h3 (Below.refl _ _).drew (blk_lt h3)⟩)
         clear hpr
         go_region
         clear x0 x1 x2 x3 x4 x5 x6 x7 x8 x9 x10 x11 x12 c0 c1 c2 c3 c4 c5 c6 c7 c8 c9 c10 c11 c12 f0 f1 f2 f3 f4 f5 f6 f7 f8 f9 f10 f11 f12 a0 a1 a2 a3 a4 a5 HX6 HY6 HRET hxl hgl3 hgpl2
         go_upto_region 27 with fail
         generalize (put13x Y gp2 (i * 13) S.bp (p6, p.o2)).drew = Z at *
         obtain ⟨a0, a1, a2, a3, a4, a5⟩ := cells5U HYF.out.1.hg
         have hgbl := blk_lt HYF.out.1.hg
         obtain ⟨v0, v1, v2, v3, v4, v5, v6⟩ := cells6U HYF.out.2.2
         have hgml := blk_lt HYF.out.2.2
         have hne5 : gm ≠ gb := ne_of_type' HYF.out.2.2 HYF.out.1.hg (by decide)
         have hcrS := HG.out.cr
         have hwc : IntKind.i64.wrap (S.cr + m.cr) = S.cr + m.cr := IntWalk.i64_in _ (by omega)
         have hp27 : Puts Z gb [(2, .int .i64 (S.cr + m.cr))] (Z.setCell ⟨gb, 2, none⟩ (.int .i64 (S.cr + m.cr))) := (Puts.start (Below.refl _ _)).set 2 _
         have HY7 := hyd ((HYF.out.1.setCr hp27).below (Below.refl _ _).drew)
         have HB7 := hyd ((HYF.out.2.1.trans (hp27.toBelow hgbX HYF.out.2.1.size)).drew)
         have hm7 : (Z.setCell ⟨gb, 2, none⟩ (.int .i64 (S.cr + m.cr))).drew.heap[gm]? = some (mvO m) := (hp27.far gm hgml hne5).trans HYF.out.2.2
         have HM7 := hyd hm7
         clear hp27 hm7
         go_region
         clear a0 a1 a2 a3 a4 a5 v0 v1 v2 v3 v4 v5 v6 hgbl hgml hwc HYF
         go_upto_region 28 with fail
         generalize (Z.setCell ⟨gb, 2, none⟩ (.int .i64 (S.cr + m.cr))).drew = Z2 at *
         obtain ⟨pz, hpz⟩ : ∃ pz, prinP S.day p6 p.o2 = pz := ⟨_, rfl⟩
         have HPR := hyd (by
          have e1 : ((runY S.ps).set i (p6, p.o2)).length = (runY S.ps).length := List.length_set
          have h6 := HSI.out
          have h7 := HB2'.out
          have hq6 : p6.since = p.since ∧ p6.done = p.done ∧ p6.acc = p.acc ∧ 0 ≤ p6.o2 ∧ p6.o2 ≤ 4611686018427387904 := by rw [← HP6.out]; exact ⟨h6.1, h6.2.1, h6.2.2, h7⟩
          have h := rprin_any gb wc.heap.size i gp2 cap2 { S with cr := S.cr + m.cr } vq2 qs2 ((runY S.ps).set i (p6, p.o2)) p6 p.o2 Z2.drew (by rw [e1]; exact HY7.out.below (Below.refl _ _).drew) HB7.out.size (by rw [e1, runY_len]; exact HI.out) (by simp) (by rw [e1, runY_len, HNP.out]; omega) HG.out.day
           (by rw [hq6.1]; exact HPOK.out.since0) (by simp [okP]; exact hq6.2.2.2) (fun hs => interest_raw HPOK.out hq6.1 hq6.2.1 hq6.2.2.1 hs)
          rw [e1, List.set_set] at h
          simp only [hpz] at h
          exact h)
         have HLOW : Hid (LowP (S.ps.set i pz)) := hyd (fun x hx => by
          rcases List.mem_or_eq_of_mem_set hx with hx | hx
          · have h := HG.out.per x hx; exact ⟨h.b0.2, h.b1.2, h.b2.2⟩
          · rw [hx]
            have e : pz.o0 = p6.o0 ∧ pz.o1 = p6.o1 ∧ pz.o2 = p6.o2 := by rw [← hpz]; unfold prinP; split <;> exact ⟨rfl, rfl, rfl⟩
            have e2 : p6.o0 = q.o0 ∧ p6.o1 = q.o1 ∧ p6.o2 = q.o2 := by rw [← HP6.out]; exact ⟨rfl, rfl, rfl⟩
            have h0 := HB0'.out; have h1 := HB1'.out; have h2 := HB2'.out
            rw [e.1, e.2.1, e.2.2, e2.1, e2.2.1, e2.2.2]
            exact ⟨h0.2, h1.2, h2.2⟩)
         rw [hpz] at HO3
         have HTK := hyd (fun (Y' : World) (hY : Below wc.heap.size wc Y') (hb : RefAt Y' 0 gb { S with ps := S.ps.set i pz, cr := S.cr + m.cr }) => rtake_end3 g gb (w.heap.size + 1) S { S with ps := S.ps.set i pz, cr := S.cr + m.cr } m 0 w wc Y' ⟨_, _, _, HV2.out⟩ HBW2.out hY (by omega) HM2.out (fun _ => ⟨hb, rfl, by rw [List.length_set, HNP.out]; omega, HLOW.out⟩) hgne hgl)
         have HXD : Hid (Z2.drew.heap[gm]? = some (mvO m)) := hyd HM7.out
         obtain ⟨v0, v1, v2, v3, v4, v5, -⟩ := cells6U HXD.out
         clear hcrS hcr3 HLOW hpz HY7
         refine Code.wp_mono (noPan_le _) ?_
         refine wp_region_held_drew (S := fun w' => w'.cell? ⟨gm, 0, none⟩ = some (.int .i64 m.c0) ∧ w'.cell? ⟨gm, 1, none⟩ = some (.int .i64 m.c1) ∧ w'.cell? ⟨gm, 2, none⟩ = some (.int .i64 m.c2) ∧ w'.cell? ⟨gm, 3, none⟩ = some (.int .i64 m.paid) ∧ w'.cell? ⟨gm, 4, none⟩ = some (.int .i64 m.cr) ∧ w'.cell? ⟨gm, 5, none⟩ = some (.int .i64 m.cash)) (by kernel_rfl) ⟨v0, v1, v2, v3, v4, v5⟩ (fun hHeld => ?_)
         refine tkH 0 (v := ?vk1) rfl ?hk1 ?_
         case hk1 => intro w hSw; (try dsimp only at hSw); go_simp; first | done | with_reducible rfl
         simp only [Act.put, lgA, lgB, lgC, lgD, lgE, lgF]
         refine tkH 1 (v := ?vk2) rfl ?hk2 ?_
         case hk2 => intro w hSw; (try dsimp only at hSw); go_simp; first | done | with_reducible rfl
         simp only [Act.put, lgA, lgB, lgC, lgD, lgE, lgF]
         refine tkH 2 (v := ?vk3) rfl ?hk3 ?_
         case hk3 => intro w hSw; (try dsimp only at hSw); go_simp; first | done | with_reducible rfl
         simp only [Act.put, lgA, lgB, lgC, lgD, lgE, lgF]
         refine tkH 3 (v := ?vk4) rfl ?hk4 ?_
         case hk4 => intro w hSw; (try dsimp only at hSw); go_simp; first | done | with_reducible rfl
         simp only [Act.put, lgA, lgB, lgC, lgD, lgE, lgF]
         refine tkH 4 (v := ?vk5) rfl ?hk5 ?_
         case hk5 => intro w hSw; (try dsimp only at hSw); go_simp; first | done | with_reducible rfl
         simp only [Act.put, lgA, lgB, lgC, lgD, lgE, lgF]
         refine wpAnyH_ready (rs := [5]) (by kernel_rfl) (by simp) ?_
         refine AllReadyH.cons rfl (fun K hK => ?_) AllReadyH.nil
         refine step_call2R rfl 125 (.tmp 132) (.tmp 133) 71 3 rfl (.pointer (some ⟨gb, 0, none⟩)) (.int .i64 (i : Int)) rfl rfl (rprin_enter _ _) ?_
         refine HPR.out.mono ?_; rintro e w7 ⟨rfl, hT7, hY7⟩; refine ⟨_, rfl, ?_⟩
         have hb7 : Below wc.heap.size wc w7 := HB7.out.drew.trans hT7.bel
         have hm8 : w7.heap[gm]? = some (mvO m) := (hT7.gr.block gm (blk_lt HXD.out) (fun e => hne4 (Option.some.inj e).symm)).trans HXD.out
         rw [runY_set] at hY7
         have HTK7 := hyd (HTK.out w7 hb7 ⟨_, _, _, hY7.toV.mono (Nat.zero_le _)⟩)
         have HM8 := hyd hm8
         obtain ⟨y0, y1, y2, y3, y4, y5, -⟩ := cells6U hm8
         refine hK.out _ _ ⟨y0, y1, y2, y3, y4, y5⟩ (fun hHeld => ?_)
         clear hK K hb7 hm8 hT7 hY7 HTK HPR
         refine wpAnyH_ready (rs := [6]) (by kernel_rfl) (by simp) ?_
         refine AllReadyH.cons rfl (fun K hK => ?_) AllReadyH.nil
         refine step_call4R rfl 123 (.tmp 129) (.tmp 130) (.tmp 131) (.tmp 134) 71 71 33 28 rfl (.pointer (some ⟨g, 0, none⟩)) (.pointer (some ⟨gb, 0, none⟩)) (mvV m) (.int .i64 0) rfl rfl rfl rfl (rtake_enter _ _ _ _) ?_
         refine HTK7.out.mono ?_; rintro e w8 ⟨m', er', rfl, ⟨x0, x1, x2, x3, x4, x5, hmc⟩, hE, hM, hkp⟩; refine ⟨_, rfl, ?_⟩
         obtain ⟨z0, z1, z2, z3, z4, z5, z6⟩ := cells6U hmc
         have hml := blk_lt hmc
         have hx8 := hkp gm _ HM8.out hgmg
         obtain ⟨y0', y1', y2', y3', y4', y5', -⟩ := cells6U hx8
         rw [← HO3.out] at hE
         have HE := hyd hE; have HM := hyd hM; have HX8 := hyd hx8
         refine hK.out _ _ ⟨y0', y1', y2', y3', y4', y5'⟩ (fun hHeld => ?_)
         clear hK K hmc hE hM hkp hx8 HTK7
         refine tkH 7 (v := ?vk6) rfl ?hk6 ?_
         case hk6 => intro w hSw; (try dsimp only at hSw); go_simp; first | done | with_reducible rfl
         simp only [Act.put, lgA, lgB, lgC, lgD, lgE, lgF]
         refine tkH 8 (v := ?vk7) rfl ?hk7 ?_
         case hk7 => intro w hSw; (try dsimp only at hSw); go_simp; first | done | with_reducible rfl
         simp only [Act.put, lgA, lgB, lgC, lgD, lgE, lgF]
         have hx9 : ∀ W : World, W = put6 w8 (w.heap.size + 1) m' → W.heap[gm]? = some (mvO m) := fun W hW => by rw [hW, put6_far w8 (w.heap.size + 1) m' hgmo]; exact HX8.out
         refine wpAnyH_ready (rs := [9]) (by kernel_rfl) (by simp) ?_
         refine AllReadyH.cons rfl (fun K hK => ?_) AllReadyH.nil
         go_simp
         obtain ⟨q0, q1, q2, q3, q4, q5, -⟩ := cells6U (hx9 _ rfl)
         refine hK.out _ _ ⟨q0, q1, q2, q3, q4, q5⟩ (fun hHeld => ?_)
         clear hK K
         refine tkH 10 (v := ?vk8) rfl ?hk8 ?_
         case hk8 => intro w hSw; (try dsimp only at hSw); go_simp; first | done | with_reducible rfl
         simp only [Act.put, lgA, lgB, lgC, lgD, lgE, lgF]
         refine wpAnyH_done (by kernel_rfl) ?_ _
         clear hHeld hx9 q0 q1 q2 q3 q4 q5 z0 z1 z2 z3 z4 z5 z6 hml y0 y1 y2 y3 y4 y5 y0' y1' y2' y3' y4' y5' v0 v1 v2 v3 v4 v5
         simp only [noPan]
         go_wp2_with fail
         exact mv_ret m' er' (w.heap.size + 1) rfl rfl rfl HM.out HE.out
    · have he1 : er = 1 := by
        have h := change_err0 s p.ret inc wh
        rw [HCH.out] at h
        rcases h with h | h
        · exact absurd h h0
        · exact h
      subst he1
      have HO2 : Hid (amendS S s per inc wh = (S, Mv.zero, 1)) := hyd (by rw [HO.out]; unfold amend1; rw [HCH.out, if_pos (by simp)])
      have HE := hyd (HEG.out 1 (by decide) wc HBW2.out)
      have HM := hyd (put6_at HM2.out Mv.zero)
      clear h0
      go_wp2_with fail
      rw [HO2.out]
      exact mv_ret Mv.zero 1 (w.heap.size + 1) rfl rfl rfl HM.out HE.out
end Go.Proofs.YtbjjgnaojoaoiaaGreat
