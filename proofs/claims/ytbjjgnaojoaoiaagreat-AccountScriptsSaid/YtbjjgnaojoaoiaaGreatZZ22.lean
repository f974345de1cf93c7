/- Laws. -/
import Derived.Test.YtbjjgnaojoaoiaaGreatZZ17
namespace Go.Proofs.YtbjjgnaojoaoiaaGreat
open Go.RowKit Go
set_option linter.unusedVariables false
set_option linter.unusedSimpArgs false
set_option maxHeartbeats 3200000
set_option maxRecDepth 100000
@[reducible] def perYO (bp : Int) (x : Per × Int) : Obj := .cells #[.int .i64 x.1.ret.per, .int .i64 x.1.ret.due, .int .i64 x.1.ret.filed, .int .i64 x.1.ret.inc, .int .i64 x.1.ret.wh, .int .i64 x.1.o0, .int .i64 x.1.o1, .int .i64 x.1.o2, .int .i64 x.2, .int .i64 bp, .int .i64 x.1.since, .int .i64 x.1.done, .int .i64 x.1.acc] 169
@[reducible] def put13x (w : World) (b o : Nat) (bp : Int) (x : Per × Int) : World := ((((((((((((w.setCell ⟨b, o, none⟩ (.int .i64 x.1.ret.per)).setCell ⟨b, o + 1, none⟩ (.int .i64 x.1.ret.due)).setCell ⟨b, o + 2, none⟩ (.int .i64 x.1.ret.filed)).setCell ⟨b, o + 3, none⟩ (.int .i64 x.1.ret.inc)).setCell ⟨b, o + 4, none⟩ (.int .i64 x.1.ret.wh)).setCell ⟨b, o + 5, none⟩ (.int .i64 x.1.o0)).setCell ⟨b, o + 6, none⟩ (.int .i64 x.1.o1)).setCell ⟨b, o + 7, none⟩ (.int .i64 x.1.o2)).setCell ⟨b, o + 8, none⟩ (.int .i64 x.2)).setCell ⟨b, o + 9, none⟩ (.int .i64 bp)).setCell ⟨b, o + 10, none⟩ (.int .i64 x.1.since)).setCell ⟨b, o + 11, none⟩ (.int .i64 x.1.done)).setCell ⟨b, o + 12, none⟩ (.int .i64 x.1.acc)
theorem put13x_eq (w : World) (b o : Nat) (bp : Int) (x : Per × Int) : put13x w b o bp x = putMany w b o (perYC bp x) := by
 simp [put13x, putMany, perYC, Nat.add_assoc]
theorem rchange_enter (u : Value) (a b : Int) (w : World) : (callFunc 163 #[u, .int .i64 a, .int .i64 b]).run Tryz.prog w = .ok (.enter 163 #[u, .int .i64 a, .int .i64 b]) w := by kernel_rfl
def PrinOf (w : World) (B g : Nat) (S : Ac) (vp vq : Value) (qs : List PmE) (l : List (Per × Int)) (e : Ending) (w' : World) : Prop := e = .returned (.int .i64 0) ∧ Turn w B vp w' ∧ RefY w' B g S vp vq qs l
theorem prin_end {w X : World} {B g gp cap i : Nat} {S : Ac} {vq : Value} {qs : List PmE} {l : List (Per × Int)} {x : Per × Int} (hT : Turn w B (.slice (some ⟨gp, 0, none⟩) l.length cap) X) (hv : RefY X B g S (.slice (some ⟨gp, 0, none⟩) l.length cap) vq qs l) (hi : i < l.length) (hgp : B ≤ gp) (hB : B ≤ w.heap.size) :
  PrinOf w B g S (.slice (some ⟨gp, 0, none⟩) l.length cap) vq qs (l.set i x) (.returned (.int .i64 0)) (put13x X gp (i * 13) S.bp x).drew := by
 rw [put13x_eq]
 have h1 := hT.many (o := i * 13) (us := perYC S.bp x) hgp
 exact ⟨rfl, h1.below (Below.refl _ _).drew (Nat.le_trans hB h1.size), (hv.setPer hi x).below (Below.refl _ _).drew⟩
theorem chg_box {X w2 : World} {gl : Nat} {bp day P : Int} {p : Per} (hx : X.heap[gl]? = some (perYO bp (p, P))) (hs : p.since ≤ day) (hp : Puts X gl (if p.o2 = P then [] else [(8 + 3, .int .i64 p.acc), (8 + 2, .int .i64 day), (8, .int .i64 p.o2)]) w2) :
  w2.heap[gl]? = some (perYO bp (prinP day p P, (prinP day p P).o2)) := by
 have h := hp.near _ _ _ hx
 unfold prinP
 by_cases e : p.o2 = P
 · rw [if_pos e] at h
   rw [if_neg (by intro h; exact h.2 e)]
   rw [h, ← e]; rfl
 · rw [if_neg e] at h
   rw [if_pos ⟨hs, e⟩]
   rw [h]; rfl
theorem turn_puts {w X w2 : World} {B gl : Nat} {v : Value} {us : List (Nat × Value)} (h : Turn w B v X) (hp : Puts X.drew gl us w2) (hg : w.heap.size = gl) (hB : B ≤ gl) : Turn w B v w2 :=
 ⟨(h.bel.drew).trans (hp.toBelow (B := B) hB (by have := h.size; show B ≤ X.heap.size; omega)), ⟨hp.os.trans h.gr.os, hp.tape.trans h.gr.tape, hp.output.trans h.gr.output, Nat.le_trans h.gr.size hp.size, fun k hk hn => (hp.far k (Nat.lt_of_lt_of_le hk h.gr.size) (by omega)).trans (h.gr.block k hk hn)⟩⟩
theorem rprin_any (g B i gp cap : Nat) (S : Ac) (vq : Value) (qs : List PmE) (l : List (Per × Int)) (p : Per) (P : Int) (w : World) (h : RefY w B g S (.slice (some ⟨gp, 0, none⟩) l.length cap) vq qs l) (hB : B ≤ w.heap.size) (hi : i < l.length) (hl : l[i] = (p, P)) (hN : l.length ≤ 1000)
  (hd : 0 ≤ S.day ∧ S.day ≤ 3652058) (hs0 : 0 ≤ p.since ∧ p.since ≤ 3652058) (hpo : okP p.o2 = true) (hint : p.since ≤ S.day → interestS S.day S.bp { p with o2 := P } = (p.acc, 0)) :
  Calls Tryz.prog 125 #[.pointer (some ⟨g, 0, none⟩), .int .i64 (i : Int)] w (PrinOf w B g S (.slice (some ⟨gp, 0, none⟩) l.length cap) vq qs (l.set i (prinP S.day p P, (prinP S.day p P).o2))) := by
 obtain ⟨gp', cap', e1, hcap, hBp, hpr⟩ := h.per hi
 injection e1 with e1 _ e3; injection e1 with e1; injection e1 with e1 _ _; subst e1; subst e3
 rw [hl] at hpr
 obtain ⟨a0, a1, a2, a3, a4, a5⟩ := cells5U h.hg
 have hgl := blk_lt h.hg
 have hgpl := hpr.lt
 obtain ⟨⟨c0, c1, c2, c3, c4, c5, c6, c7⟩, c8, c9, c10, c11, c12⟩ := hpr.all
 simp only at c0 c1 c2 c3 c4 c5 c6 c7 c8 c9 c10 c11 c12
 obtain ⟨np, hnp⟩ : ∃ np, l.length = np := ⟨_, rfl⟩
 have hin : i < np := by omega
 have a3' : w.cell? ⟨g, 3, none⟩ = some (.slice (some ⟨gp, 0, none⟩) np cap) := by rw [← hnp]; exact a3
 have hX := blk_new w (perYO S.bp (p, P)) rfl
 have hXb : Below w.heap.size w (w.alloc (perYO S.bp (p, P))) := bnewU _ _
 have hvx := h.below hXb
 have HX := hyd hX; have HVX := hyd hvx; have HXB := hyd hXb; have HNP := hyd hnp
 have i1 : (0 : Int) ≤ (i : Int) := by omega
 have i2 : (i : Int) < (np : Int) := by omega
 have HT0 : Hid (Turn w B (.slice (some ⟨gp, 0, none⟩) l.length cap) (w.alloc (perYO S.bp (p, P)))) := hyd ((Turn.refl _ _ _).below hXb hB)
 have HEND := hyd (fun (X : World) (x : Per × Int) hT hv => prin_end (w := w) (X := X) (B := B) (g := g) (gp := gp) (cap := cap) (i := i) (S := S) (vq := vq) (qs := qs) (l := l) (x := x) hT hv hi hBp hB)
 obtain ⟨gl, hglw⟩ : ∃ gl, w.heap.size = gl := ⟨_, rfl⟩
 have hgpne : gp ≠ gl := by omega
 clear h hpr hvx hX hXb a3 hcap
 by_cases hlt : S.day < p.since
 · have hpp : prinP S.day p P = p := by unfold prinP; rw [if_neg (by omega)]
   rw [hpp]
   have d1 : decide (S.day ≥ p.since) = false := by simpa using hlt
   clear hint hlt hpo hpp
   go_enter Tryz.func125, Tryz.ntmps125
   go_upto_region 2 with fail
   rw [hglw] at HX hB hgl hgpl
   go_quiet (fail)
   have hbq : Below (w.alloc (perYO S.bp (p, P))).heap.size (w.alloc (perYO S.bp (p, P))) ((w.alloc (perYO S.bp (p, P))).drewN nq) := below_drewN (Below.refl _ _) _
   have hVQ := HVX.out.below hbq
   have hTQ := HT0.out.below hbq (by simp; omega)
   have hXQ : ((w.alloc (perYO S.bp (p, P))).drewN nq).heap[gl]? = some (perYO S.bp (p, P)) := HX.out
   clear hbq c0 c1 c2 c3 c4 c5 c6 c7 c8 c9 c10 c11 c12 a0 a1 a2 a3' a4 a5
   generalize (w.alloc (perYO S.bp (p, P))).drewN nq = X at *
   have hv3 := hVQ.setFar (gl := gl) hgpne hXQ 8 (.int .i64 p.o2)
   have hx3 := blk_set hXQ 8 (.int .i64 p.o2)
   have hb3 : Below X.heap.size X (X.setCell ⟨gl, 8, none⟩ (.int .i64 p.o2)) ∨ True := .inr trivial
   have hT3 : Turn w B (.slice (some ⟨gp, 0, none⟩) l.length cap) (X.setCell ⟨gl, 8, none⟩ (.int .i64 p.o2)) := ⟨hTQ.bel.setCell (by omega) _, ⟨hTQ.gr.os, hTQ.gr.tape, hTQ.gr.output, by rw [World.size_setCell]; exact hTQ.gr.size, fun k hk hn => (Below.heap_setCell X ⟨gl, 8, none⟩ (.int .i64 p.o2) k (by show k ≠ gl; omega)).trans (hTQ.gr.block k hk hn)⟩⟩
   have hx5 : (X.setCell ⟨gl, 8, none⟩ (.int .i64 p.o2)).heap[gl]? = some (perYO S.bp (p, p.o2)) := hx3
   have HV3 := hyd hv3; have HX3 := hyd hx5; have HT3 := hyd hT3
   have x7 := blk_cell hXQ 7; have x8 := blk_cell hXQ 8
   have xf := fun j => blk_free hXQ j
   have hxl := blk_lt hXQ
   simp only [List.getElem?_toArray, List.getElem?_cons_succ, List.getElem?_cons_zero] at x7 x8
   clear hVQ hTQ hXQ hv3 hx3 hb3 hT3 hx5 HX HVX HXB HT0
   go_upto_region 7 with fail
   clear x7 x8 xf hxl
   generalize X.setCell ⟨gl, 8, none⟩ (.int .i64 p.o2) = Y at *
   have x0 := blk_cell HX3.out 0; have x1 := blk_cell HX3.out 1; have x2 := blk_cell HX3.out 2; have x3 := blk_cell HX3.out 3; have x4 := blk_cell HX3.out 4; have x5 := blk_cell HX3.out 5; have x6 := blk_cell HX3.out 6
   have x7 := blk_cell HX3.out 7; have x8 := blk_cell HX3.out 8; have x9 := blk_cell HX3.out 9; have x10 := blk_cell HX3.out 10; have x11 := blk_cell HX3.out 11; have x12 := blk_cell HX3.out 12
   simp only [List.getElem?_toArray, List.getElem?_cons_succ, List.getElem?_cons_zero] at x0 x1 x2 x3 x4 x5 x6 x7 x8 x9 x10 x11 x12
   have hxl := blk_lt HX3.out
   obtain ⟨a0, a1, a2, a3, a4, a5⟩ := cells5U HV3.out.hg
   rw [HNP.out] at a3
   have hgl3 := blk_lt HV3.out.hg
   obtain ⟨gp', cap', e1, _, _, hpr⟩ := HV3.out.per hi
   injection e1 with e1 _ e3; injection e1 with e1; injection e1 with e1 _ _; subst e1; subst e3
   obtain ⟨⟨c0, c1, c2, c3, c4, c5, c6, c7⟩, c8, c9, c10, c11, c12⟩ := hpr.all
   have f0 := hpr.f 0 (by omega); have f1 := hpr.f 1 (by omega); have f2 := hpr.f 2 (by omega); have f3 := hpr.f 3 (by omega); have f4 := hpr.f 4 (by omega); have f5 := hpr.f 5 (by omega); have f6 := hpr.f 6 (by omega)
   have f7 := hpr.f 7 (by omega); have f8 := hpr.f 8 (by omega); have f9 := hpr.f 9 (by omega); have f10 := hpr.f 10 (by omega); have f11 := hpr.f 11 (by omega); have f12 := hpr.f 12 (by omega)
   have hgpl2 := hpr.lt
   rw [Nat.add_zero] at f0
   clear hpr
   have HFIN := hyd (HEND.out Y (p, p.o2) HT3.out HV3.out)
   rw [HNP.out] at HFIN
   go_region_law (fail)
   clear x0 x1 x2 x3 x4 x5 x6 x7 x8 x9 x10 x11 x12 c0 c1 c2 c3 c4 c5 c6 c7 c8 c9 c10 c11 c12 f0 f1 f2 f3 f4 f5 f6 f7 f8 f9 f10 f11 f12
   all_goals go_wp2_with fail
   all_goals go_ret
   all_goals exact HFIN.out
 · have hlt' : p.since ≤ S.day := by omega
   have hie : simpleS P S.bp (S.day - p.since) = ((simpleS P S.bp (S.day - p.since)).1, 0) ∧ addS p.done (simpleS P S.bp (S.day - p.since)).1 = (p.acc, 0) := by
    have h1 := hint hlt'
    unfold interestS at h1
    simp only at h1
    rw [if_neg hlt] at h1
    by_cases h2 : (simpleS P S.bp (S.day - p.since)).2 = 0
    · rw [if_pos h2] at h1
      exact ⟨by rw [← h2], h1⟩
    · rw [if_neg h2] at h1
      exact absurd (congrArg Prod.snd h1) h2
   have HCH := hyd (fun (W : World) (hW : RunP W gl 8 P S.bp p.since p.done) => change_refJ gl 8 P S.bp p.since p.done p.o2 S.day p.acc W hW hs0 hpo (by simpa [okD] using hd) (by omega) (by rw [hie.1]) hie.2)
   have HCB := hyd (fun (X w2 : World) (hx : X.heap[gl]? = some (perYO S.bp (p, P))) hp => chg_box (day := S.day) (w2 := w2) hx hlt' hp)
   have d1 : decide (S.day ≥ p.since) = true := by simpa using hlt'
   obtain ⟨p2, hp2e⟩ : ∃ p2, prinP S.day p P = p2 := ⟨_, rfl⟩
   rw [hp2e] at HCB ⊢
   clear hint hlt hpo hie hlt' hp2e
   go_enter Tryz.func125, Tryz.ntmps125
   go_upto_region 2 with fail
   rw [hglw] at HX hB hgl hgpl
   go_quiet (fail)
   have hbq : Below (w.alloc (perYO S.bp (p, P))).heap.size (w.alloc (perYO S.bp (p, P))) ((w.alloc (perYO S.bp (p, P))).drewN nq) := below_drewN (Below.refl _ _) _
   have hVQ := HVX.out.below hbq
   have hTQ := HT0.out.below hbq (by simp; omega)
   have hXQ : ((w.alloc (perYO S.bp (p, P))).drewN nq).heap[gl]? = some (perYO S.bp (p, P)) := HX.out
   clear hbq c0 c1 c2 c3 c4 c5 c6 c7 c8 c9 c10 c11 c12 a0 a1 a2 a3' a4 a5
   generalize (w.alloc (perYO S.bp (p, P))).drewN nq = X at *
   obtain ⟨a0, a1, a2, a3, a4, a5⟩ := cells5U hVQ.hg
   have hglx := blk_lt hVQ.hg
   have x7 := blk_cell hXQ 7; have x8 := blk_cell hXQ 8; have x9 := blk_cell hXQ 9; have x10 := blk_cell hXQ 10; have x11 := blk_cell hXQ 11
   simp only [List.getElem?_toArray, List.getElem?_cons_succ, List.getElem?_cons_zero] at x7 x8 x9 x10 x11
   have hxl := blk_lt hXQ
   have HVQ := hyd hVQ; have HTQ := hyd hTQ; have HXQ := hyd hXQ
   clear hVQ hTQ hXQ HX HVX HXB HT0 x8 x9 x10 x11
   go_upto_region 3 with fail
   have HCX := hyd (HCH.out X.drew ⟨blk_cell (w := X.drew) HXQ.out 8, blk_cell (w := X.drew) HXQ.out 9, blk_cell (w := X.drew) HXQ.out 10, blk_cell (w := X.drew) HXQ.out 11, fun j => blk_free (w := X.drew) HXQ.out j, hxl⟩)
   go_region_law (refine step_call3R rfl 163 (.tmp 22) (.tmp 25) (.tmp 29) 167 2 3 rfl (.pointer (some ⟨gl, 8, none⟩)) (.int .i64 p.o2) (.int .i64 S.day) rfl rfl rfl (rchange_enter _ _ _) ?_
                  refine HCX.out.mono ?_; rintro e w2 ⟨rfl, hp2⟩; refine ⟨_, rfl, ?_⟩
                  have hx2 := HCB.out X.drew w2 HXQ.out hp2
                  have hv2 := (HVQ.out.below (Below.refl _ _).drew).putsFar hp2 hgpne HXQ.out
                  have hT2 : Turn w B (.slice (some ⟨gp, 0, none⟩) l.length cap) w2 := turn_puts HTQ.out hp2 hglw hB
                  have HX2 := hyd hx2; have HV2 := hyd hv2; have HT2 := hyd hT2
                  clear hp2 hx2 hv2 hT2)
   all_goals
    clear x7 hxl a0 a1 a2 a3 a4 a5 hglx HVQ HTQ HXQ HCX
    go_upto_region 4 with fail
    have x0 := blk_cell HX2.out 0; have x1 := blk_cell HX2.out 1; have x2 := blk_cell HX2.out 2; have x3 := blk_cell HX2.out 3; have x4 := blk_cell HX2.out 4; have x5 := blk_cell HX2.out 5; have x6 := blk_cell HX2.out 6
    have x7 := blk_cell HX2.out 7; have x8 := blk_cell HX2.out 8; have x9 := blk_cell HX2.out 9; have x10 := blk_cell HX2.out 10; have x11 := blk_cell HX2.out 11; have x12 := blk_cell HX2.out 12
    simp only [List.getElem?_toArray, List.getElem?_cons_succ, List.getElem?_cons_zero] at x0 x1 x2 x3 x4 x5 x6 x7 x8 x9 x10 x11 x12
    have hxl := blk_lt HX2.out
    obtain ⟨a0, a1, a2, a3, a4, a5⟩ := cells5U HV2.out.hg
    rw [HNP.out] at a3
    have hgl3 := blk_lt HV2.out.hg
    obtain ⟨gp', cap', e1, _, _, hpr⟩ := HV2.out.per hi
    injection e1 with e1 _ e3; injection e1 with e1; injection e1 with e1 _ _; subst e1; subst e3
    obtain ⟨⟨c0, c1, c2, c3, c4, c5, c6, c7⟩, c8, c9, c10, c11, c12⟩ := hpr.all
    have f0 := hpr.f 0 (by omega); have f1 := hpr.f 1 (by omega); have f2 := hpr.f 2 (by omega); have f3 := hpr.f 3 (by omega); have f4 := hpr.f 4 (by omega); have f5 := hpr.f 5 (by omega); have f6 := hpr.f 6 (by omega)
    have f7 := hpr.f 7 (by omega); have f8 := hpr.f 8 (by omega); have f9 := hpr.f 9 (by omega); have f10 := hpr.f 10 (by omega); have f11 := hpr.f 11 (by omega); have f12 := hpr.f 12 (by omega)
    have hgpl2 := hpr.lt
    rw [Nat.add_zero] at f0
    clear hpr
    have HFIN := hyd (HEND.out w2 (p2, p2.o2) HT2.out HV2.out)
    rw [HNP.out] at HFIN
    go_region_law (fail)
    clear x0 x1 x2 x3 x4 x5 x6 x7 x8 x9 x10 x11 x12 c0 c1 c2 c3 c4 c5 c6 c7 c8 c9 c10 c11 c12 f0 f1 f2 f3 f4 f5 f6 f7 f8 f9 f10 f11 f12
    all_goals go_wp2_with fail
    all_goals go_ret
    all_goals exact HFIN.out
def aheadP (t : Int) (ps : List Per) : Nat := ps.countP fun p => decide (p.ret.per < t)
theorem aheadP_is {t : Int} {ps : List Per} {i : Nat} (hi : i ≤ ps.length) (h1 : ∀ k (h : k < ps.length), k < i → ps[k].ret.per < t) (h2 : ∀ k (h : k < ps.length), i ≤ k → t ≤ ps[k].ret.per) : aheadP t ps = i := by
 unfold aheadP
 have e1 : (ps.take i).countP (fun p => decide (p.ret.per < t)) = i := by
  have : (ps.take i).countP (fun p => decide (p.ret.per < t)) = (ps.take i).length := List.countP_eq_length.2 fun p hp => by
   obtain ⟨k, hk, rfl⟩ := List.mem_iff_getElem.1 hp
   simp only [List.length_take] at hk
   rw [List.getElem_take]
   simpa using h1 k (by omega) (by omega)
  rw [this, List.length_take]; omega
 have e2 : (ps.drop i).countP (fun p => decide (p.ret.per < t)) = 0 := List.countP_eq_zero.2 fun p hp => by
  obtain ⟨k, hk, rfl⟩ := List.mem_iff_getElem.1 hp
  simp only [List.length_drop] at hk
  rw [List.getElem_drop]
  have := h2 (i + k) (by omega) (by omega)
  simp; omega
 rw [← List.take_append_drop i ps, List.countP_append, e1]
 simpa using e2
theorem cmpPer_any (p : Per) (n : Int) (w : World) (h : -9223372036854775808 ≤ p.ret.per - n ∧ p.ret.per - n ≤ 9223372036854775807) :
  Calls Tryz.prog 41 #[perV p, .int .i64 n] w fun e w' => e = .returned (.int .i64 (p.ret.per - n)) ∧ Below w.heap.size w w' := by
 have hw := IntWalk.i64_in _ h
 go_enter Tryz.func41, Tryz.ntmps41
 go_wp2_with fail
 go_ret
 exact ⟨by first | rfl | (rw [hw]; rfl), (Below.refl _ _).alloc (Nat.le_refl _) _⟩
theorem bsPer_any (A : Option Addr) (N c : Nat) (ps : List Per) (t : Int) (w : World) (hl : ps.length = N) (hr : Rd w w.heap.size 11 A N (perCs ps)) (hN : N ≤ 1000000) (hri : RiseP ps) (hp : ∀ p ∈ ps, 0 ≤ p.ret.per ∧ p.ret.per ≤ 1000000) (ht : 0 ≤ t ∧ t ≤ 1000000) :
  Calls Tryz.prog 40 #[.slice A N c, .int .i64 t, .func (.func 41) #[] #[]] w fun e w' => (∃ b, e = .returned (.tuple #[.int .i64 (aheadP t ps), .bool b])) ∧ Below w.heap.size w w' := by
 have HL := hyd hl; have HR := hyd hr; have HP := hyd hp; have HRI := hyd hri
 clear hl hr hp hri
 go_enter Tryz.func40, Tryz.ntmps40
 go_wp2_with fail
 go_loopg [9, 10] N (fun gh v9 v10 wr => ∃ i j : Nat, gh = j - i ∧ i ≤ j ∧ j ≤ N ∧ v9 = .int .i64 i ∧ v10 = .int .i64 j ∧ (∀ k (h : k < ps.length), k < i → ps[k].ret.per < t) ∧ (∀ k (h : k < ps.length), j ≤ k → t ≤ ps[k].ret.per) ∧ Below w.heap.size w wr)
 case atStart => exact ⟨0, N, by omega, by omega, by omega, rfl, rfl, fun k h h2 => by omega, fun k h h2 => by have := HL.out; omega, Below.refl _ _⟩
 case round =>
  obtain ⟨i, j, hg, hij, hjN, rfl, rfl, hlo, hhi, hbr⟩ := hrel
  have HG := hyd hg; have HLO := hyd hlo; have HHI := hyd hhi; have HB := hyd hbr
  clear hg hlo hhi
  by_cases hlt : i < j
  · have hm1 : (i + j) / 2 < N := by omega
    have hl1 : (i + j) / 2 < ps.length := by rw [HL.out]; exact hm1
    obtain ⟨b, off, rfl, hb, c0, c1, c2, c3, c4, c5, c6, c7, c8, c9, c10⟩ := (HR.out.below hbr).per hl1
    have hbd := HP.out _ (List.getElem_mem hl1)
    have HC := hyd (fun wx => cmpPer_any ps[(i + j) / 2] t wx (by omega))
    have u1 : IntKind.i64.wrap ((i : Int) + (j : Int)) = (i : Int) + (j : Int) := IntWalk.i64_in _ (by omega)
    have u2 : IntKind.u64.wrap ((i : Int) + (j : Int)) = (i : Int) + (j : Int) := by rw [IntKind.wrap_u64]; omega
    clear hbr
    go_wp2_with fail
    refine (HC.out _).mono ?_; rintro e w1 ⟨rfl, hw1⟩
    have HB1 := hyd (HB.out.trans (hw1.mono HB.out.size))
    have b1 : i ≤ (i + j) / 2 := by omega
    have b2 : (i + j) / 2 < j := by omega
    by_cases hx : ps[(i + j) / 2].ret.per < t
    · have hx' : decide (ps[(i + j) / 2].ret.per - t < 0) = true := by simp; omega
      have HX : Hid (∀ k (h : k < ps.length), k < (i + j) / 2 + 1 → ps[k].ret.per < t) := hyd (fun k h hk => by
       rcases Nat.lt_or_ge k ((i + j) / 2) with h3 | h3
       · have := List.pairwise_iff_getElem.1 HRI.out k _ h hl1 h3; omega
       · have : k = (i + j) / 2 := by omega
         subst this; exact hx)
      have w3 : IntKind.i64.wrap (((i : Int) + (j : Int)) / 2 + 1) = (((i + j) / 2 + 1 : Nat) : Int) := by rw [IntWalk.i64_in _ (by omega)]; omega
      clear hw1 hx c0 c1 c2 c3 c4 c5 c6 c7 c8 c9 c10 hbd HC
      generalize ps[(i + j) / 2].ret.per = xp at *
      go_wp2_with fail
      go_roundg (j - ((i + j) / 2 + 1))
      case measure => have := HG.out; omega
      case rel => exact ⟨(i + j) / 2 + 1, j, rfl, by omega, hjN, by first | go_num | (congr 1; omega), rfl, HX.out, HHI.out, HB1.out⟩
    · have hx' : decide (ps[(i + j) / 2].ret.per - t < 0) = false := by simp; omega
      have HX : Hid (∀ k (h : k < ps.length), (i + j) / 2 ≤ k → t ≤ ps[k].ret.per) := hyd (fun k h hk => by
       rcases Nat.lt_or_ge ((i + j) / 2) k with h3 | h3
       · have := List.pairwise_iff_getElem.1 HRI.out _ k hl1 h h3; omega
       · have : k = (i + j) / 2 := by omega
         subst this; omega)
      clear hw1 hx c0 c1 c2 c3 c4 c5 c6 c7 c8 c9 c10 hbd HC
      generalize ps[(i + j) / 2].ret.per = xp at *
      go_wp2_with fail
      go_roundg ((i + j) / 2 - i)
      case measure => have := HG.out; omega
      case rel => exact ⟨i, (i + j) / 2, rfl, by omega, by omega, rfl, by first | go_num | (congr 1; omega), HLO.out, HX.out, HB1.out⟩
  · have hji : j = i := by omega
    subst hji
    have HE : Hid (aheadP t ps = j) := hyd (aheadP_is (by have := HL.out; omega) HLO.out HHI.out)
    by_cases hjn : j < N
    · have hl1 : j < ps.length := by rw [HL.out]; exact hjn
      obtain ⟨b, off, rfl, hb, c0, c1, c2, c3, c4, c5, c6, c7, c8, c9, c10⟩ := (HR.out.below hbr).per hl1
      have hbd := HP.out _ (List.getElem_mem hl1)
      have HC := hyd (fun wx => cmpPer_any ps[j] t wx (by omega))
      have i1 : (0 : Int) ≤ (j : Int) := by omega
      have i2 : (j : Int) < (N : Int) := by omega
      clear hbr
      go_wp2_with fail
      refine (HC.out _).mono ?_; rintro e w1 ⟨rfl, hw1⟩
      have HB1 := hyd (HB.out.trans (hw1.mono HB.out.size))
      clear hw1
      go_wp2_with fail
      all_goals go_ret2
      all_goals exact ⟨⟨_, by rw [HE.out]; rfl⟩, HB1.out⟩
    · have hj : j = N := by omega
      subst hj
      clear hbr
      go_wp2_with fail
      all_goals go_ret2
      all_goals exact ⟨⟨_, by rw [HE.out]; rfl⟩, HB.out⟩
end Go.Proofs.YtbjjgnaojoaoiaaGreat
