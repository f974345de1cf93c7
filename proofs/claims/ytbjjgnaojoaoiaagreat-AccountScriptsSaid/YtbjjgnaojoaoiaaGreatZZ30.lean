/- Laws. -/
import Derived.Test.YtbjjgnaojoaoiaaGreatZZ24
import Derived.Test.YtbjjgnaojoaoiaaGreatZZ28
import Derived.Deep.DrawnRows
namespace Go.Proofs.YtbjjgnaojoaoiaaGreat
open Go.RowKit Go
set_option linter.unusedVariables false
set_option linter.unusedSimpArgs false
set_option maxHeartbeats 6400000
set_option maxRecDepth 100000
@[reducible] def mvz : Obj := .cells #[.int .i64 0, .int .i64 0, .int .i64 0, .int .i64 0, .int .i64 0, .int .i64 0] 33 (0, 0)
@[reducible] def mvO (m : Mv) : Obj := .cells #[.int .i64 m.c0, .int .i64 m.c1, .int .i64 m.c2, .int .i64 m.paid, .int .i64 m.cr, .int .i64 m.cash] 33 (0, 0)
@[reducible] def rtO (r : Ret) : Obj := .cells #[.int .i64 r.per, .int .i64 r.due, .int .i64 r.filed, .int .i64 r.inc, .int .i64 r.wh] 37 (0, 0)
@[reducible] def bilO (b : Bl) : Obj := .cells #[.int .i64 b.tax, .int .i64 b.prin, .int .i64 b.pen, .int .i64 b.exc] 85 (0, 0)
def retU (off : Nat) (r : Ret) : List (Nat × Value) := [(off, .int .i64 r.per), (off + 1, .int .i64 r.due), (off + 2, .int .i64 r.filed), (off + 3, .int .i64 r.inc), (off + 4, .int .i64 r.wh)]
theorem retU_puts {ps : List Per} {i : Nat} (h : i < ps.length) (r : Ret) : (retU (i * 11) r).foldl (fun a u => a.set u.1 u.2) (perCs ps) = perCs (ps.set i (ps[i].with_ r)) := by
 simp only [retU, List.foldl_cons, List.foldl_nil]
 have e0 : (perCs ps).set (i * 11) (.int .i64 r.per) = perCs (ps.set i (ps[i].with_ { ps[i].ret with per := r.per })) := per_put (j := 0) h (by omega) rfl
 rw [e0]
 rw [per_put (by simpa using h) (by omega) (y := ps[i].with_ { ps[i].ret with per := r.per, due := r.due }) (by simp [perC, Per.with_]), List.set_set]
 rw [per_put (by simpa using h) (by omega) (y := ps[i].with_ { ps[i].ret with per := r.per, due := r.due, filed := r.filed }) (by simp [perC, Per.with_]), List.set_set]
 rw [per_put (by simpa using h) (by omega) (y := ps[i].with_ { ps[i].ret with per := r.per, due := r.due, filed := r.filed, inc := r.inc }) (by simp [perC, Per.with_]), List.set_set]
 rw [per_put (by simpa using h) (by omega) (y := ps[i].with_ r) (by simp [perC, Per.with_]), List.set_set]
structure AmInv (w wr : World) (B gb gm : Nat) (S : Ac) (vp vq : Value) (qs : List PmE) (i : Nat) (m0 m2 : Int) (p0 : Per) (k : Nat) (m : Mv) (q : Per) : Prop where
 eq : amdK S.day m0 m2 p0 k = (0, m, q)
 own : OwnV wr B gb { S with ps := S.ps.set i q } vp vq qs
 bel : Below B w wr
 z0 : wr.heap[w.heap.size]? = some mvz
 z1 : wr.heap[gm]? = some (mvO m)
 cr : 0 ≤ m.cr ∧ m.cr ≤ k * 4503599627370496
structure AmBox (w W : World) (B gb : Nat) (S : Ac) (vp vq : Value) (qs : List PmE) : Prop where
 own : OwnV W B gb S vp vq qs
 bel : Below w.heap.size w W
 z0 : W.heap[w.heap.size]? = some mvz
theorem AmBox.up {w W W' : World} {B gb : Nat} {S : Ac} {vp vq : Value} {qs : List PmE} (h : AmBox w W B gb S vp vq qs) (hb : Below W.heap.size W W') : AmBox w W' B gb S vp vq qs :=
 ⟨h.own.below hb, h.bel.trans (hb.mono h.bel.size), blk_below h.z0 hb (blk_lt h.z0)⟩
theorem OwnV.perA {w : World} {B g gp n cap : Nat} {S : Ac} {vq : Value} {qs : List PmE} (h : OwnV w B g S (.slice (some ⟨gp, 0, none⟩) n cap) vq qs) {i : Nat} (hi : i < S.ps.length) : PerAt w gp (i * 11) S.ps[i] := by
 obtain ⟨gp', cap', e, _, _, hp⟩ := h.per hi
 injection e with e _ _; injection e with e; injection e with e _ _
 subst e; exact hp
theorem PerAt.ret {w : World} {b off : Nat} {p : Per} (h : PerAt w b off p) : (w.cell? ⟨b, off, none⟩ = some (.int .i64 p.ret.per) ∧ w.cell? ⟨b, off + 1, none⟩ = some (.int .i64 p.ret.due) ∧ w.cell? ⟨b, off + 2, none⟩ = some (.int .i64 p.ret.filed) ∧ w.cell? ⟨b, off + 3, none⟩ = some (.int .i64 p.ret.inc) ∧ w.cell? ⟨b, off + 4, none⟩ = some (.int .i64 p.ret.wh)) ∧
  (w.frozen? ⟨b, off, none⟩ = false ∧ w.frozen? ⟨b, off + 1, none⟩ = false ∧ w.frozen? ⟨b, off + 2, none⟩ = false ∧ w.frozen? ⟨b, off + 3, none⟩ = false ∧ w.frozen? ⟨b, off + 4, none⟩ = false) :=
 ⟨⟨h.c 0 (by omega), h.c 1 (by omega), h.c 2 (by omega), h.c 3 (by omega), h.c 4 (by omega)⟩, ⟨h.f 0 (by omega), h.f 1 (by omega), h.f 2 (by omega), h.f 3 (by omega), h.f 4 (by omega)⟩⟩
theorem AmBox.fresh {w W W' : World} {B gb gp cap i : Nat} {S : Ac} {vq : Value} {qs : List PmE} (h : AmBox w W B gb S (.slice (some ⟨gp, 0, none⟩) S.ps.length cap) vq qs) (hi : i < S.ps.length) (hB : B ≤ w.heap.size) (r : Ret) (hp : Puts W gp (retU (i * 11) r) W') (m0 m2 : Int) :
  AmInv w (W'.alloc (.cells #[.int .i64 0, .int .i64 0, .int .i64 0, .int .i64 0, .int .i64 0, .int .i64 0] 33)) B gb W'.heap.size S (.slice (some ⟨gp, 0, none⟩) S.ps.length cap) vq qs i m0 m2 (S.ps[i].with_ r) 0 Mv.zero (S.ps[i].with_ r) := by
 obtain ⟨b1, cs1, hcs1⟩ := own_block_type h.own.hp (b := gp) rfl
 have hgp := (own_block_type h.own.hp (b := gp) rfl).1
 have hb1 := bnewU W' (.cells #[.int .i64 0, .int .i64 0, .int .i64 0, .int .i64 0, .int .i64 0, .int .i64 0] 33)
 have hov : OwnV W' B gb { S with ps := S.ps.set i (S.ps[i].with_ r) } (.slice (some ⟨gp, 0, none⟩) S.ps.length cap) vq qs := OwnV.puts h.own (by omega) hp (by simp) (retU_puts hi r)
 have hbw : Below B w W' := (h.bel.mono hB).trans (hp.toBelow hgp (Nat.le_trans hB h.bel.size))
 refine ⟨rfl, hov.below hb1, hbw.trans (hb1.mono (Nat.le_trans hB hbw.size)), ?_, blk_new _ _ rfl, by show (0 : Int) ≤ 0; omega, by show (0 : Int) ≤ _; omega⟩
 exact blk_alloc ((hp.far _ (blk_lt h.z0) (ne_of_type' h.z0 hcs1 (by decide))).trans h.z0) _
theorem AmBox.puts {w W W' : World} {B gb gf : Nat} {S : Ac} {vp vq : Value} {qs : List PmE} {us : List (Nat × Value)} {cs : Array Value} {t : Nat} {fr : Nat × Nat} (h : AmBox w W B gb S vp vq qs) (hp : Puts W gf us W') (hf : W.heap[gf]? = some (.cells cs t fr))
  (h1 : t ≠ 83) (h2 : t ≠ 92) (h3 : t ≠ 110) (h4 : t ≠ 58) (h5 : t ≠ 33) (hw : w.heap.size ≤ gf) : AmBox w W' B gb S vp vq qs :=
 ⟨h.own.far hp hf h1 h2 h3 h4, h.bel.trans (hp.toBelow hw h.bel.size), (hp.far _ (blk_lt h.z0) (fun e => by have := h.z0; rw [e, hf] at this; injection this with this; injection this with _ this _; exact h5 this)).trans h.z0⟩
theorem cells_below {W W' : World} (hb : Below W.heap.size W W') {b o : Nat} {v : Value} (hl : b < W.heap.size) (h : W.cell? ⟨b, o, none⟩ = some v) : W'.cell? ⟨b, o, none⟩ = some v := (hb.cell (p := ⟨b, o, none⟩) hl).trans h
theorem step_err {w X : World} {B gb gm : Nat} {r : Ac × Mv × Int} {er : Int} {x0 x1 x2 x3 x4 x5 : Value} (hb : Below B w X) (hm : X.heap[gm]? = some (.cells #[x0, x1, x2, x3, x4, x5] 33 (0, 0))) (hgm : B ≤ gm) (hr : r.2.2 = er) (h0 : er ≠ 0) :
  (put6 X gm Mv.zero).heap[gm]? = some (.cells #[.int .i64 Mv.zero.c0, .int .i64 Mv.zero.c1, .int .i64 Mv.zero.c2, .int .i64 Mv.zero.paid, .int .i64 Mv.zero.cr, .int .i64 Mv.zero.cash] 33 (0, 0)) ∧ StepOf w B gb r (.returned (mvR Mv.zero er)) (put6 X gm Mv.zero) := by
 have e1 := put6_at hm Mv.zero
 have e2 : Below B w (put6 X gm Mv.zero) := (((((hb.setCell hgm _).setCell hgm _).setCell hgm _).setCell hgm _).setCell hgm _).setCell hgm _
 generalize put6 X gm Mv.zero = W at *
 subst hr
 exact ⟨e1, e2, .inr ⟨h0, .inl rfl⟩⟩
theorem idx3 (m0 m2 : Int) {k : Nat} (hk : k < 3) (wx : World) : (Instr.index 31 (.agg #[.int .i64 m0, .int .i64 0, .int .i64 m2]) (.int .i64 (k : Int))).run Tryz.prog wx = .ok (.int .i64 (moreK m0 m2 k)) wx := by
 have t0 : ∀ w, (Instr.index 31 (.agg #[.int .i64 m0, .int .i64 0, .int .i64 m2]) (.int .i64 0)).run Tryz.prog w = .ok (.int .i64 m0) w := fun _ => by kernel_rfl
 have t1 : ∀ w, (Instr.index 31 (.agg #[.int .i64 m0, .int .i64 0, .int .i64 m2]) (.int .i64 1)).run Tryz.prog w = .ok (.int .i64 0) w := fun _ => by kernel_rfl
 have t2 : ∀ w, (Instr.index 31 (.agg #[.int .i64 m0, .int .i64 0, .int .i64 m2]) (.int .i64 2)).run Tryz.prog w = .ok (.int .i64 m2) w := fun _ => by kernel_rfl
 rcases (show k = 0 ∨ k = 1 ∨ k = 2 by omega) with rfl | rfl | rfl
 · exact t0 wx
 · exact t1 wx
 · exact t2 wx
theorem AmInv.step {w wr wx wy wz w5 : World} {B gb gm gp cap i k : Nat} {S : Ac} {vq : Value} {qs : List PmE} {m0 m2 c x op : Int} {p0 q : Per} {m : Mv} (h : AmInv w wr B gb gm S (.slice (some ⟨gp, 0, none⟩) S.ps.length cap) vq qs i m0 m2 p0 k m q) (hi : i < S.ps.length) (hk : k < 3) (hB : B ≤ w.heap.size) (hgm : w.heap.size < gm)
  (hamd : amd1 S.day (k : Int) (moreK m0 m2 k) q = (0, c, x, Per.setO S.day q (k : Int) op)) (hb : Below wr.heap.size wr wx) (hp1 : Puts wx gm [(4, .int .i64 (m.cr + x))] wy) (hp2 : Puts wy gm [(k, .int .i64 c)] wz) (hp3 : Puts wz gp (setU S.day q (i * 11) (k : Int) op) w5) (hx : 0 ≤ x ∧ x ≤ 4503599627370496) :
  AmInv w w5 B gb gm S (.slice (some ⟨gp, 0, none⟩) S.ps.length cap) vq qs i m0 m2 p0 (k + 1) (m.putK k c x) (Per.setO S.day q (k : Int) op) := by
 obtain ⟨b1, cs1, hcs1⟩ := own_block_type h.own.hp (b := gp) rfl
 have hgp := (own_block_type h.own.hp (b := gp) rfl).1
 have n0 : w.heap.size ≠ gp := ne_of_type' h.z0 hcs1 (by decide)
 have n1 : gm ≠ gp := ne_of_type' h.z1 hcs1 (by decide)
 have hBr : B ≤ wr.heap.size := Nat.le_trans hB h.bel.size
 have z1x := blk_below h.z1 hb (blk_lt h.z1)
 have z1y := hp1.near _ _ _ z1x
 have z1z := hp2.near _ _ _ z1y
 have z0x := blk_below h.z0 hb (blk_lt h.z0)
 have z0y := (hp1.far _ (blk_lt z0x) (by omega)).trans z0x
 have z0z := (hp2.far _ (blk_lt z0y) (by omega)).trans z0y
 have ox := h.own.below hb
 have oy := ox.far hp1 z1x (by decide) (by decide) (by decide) (by decide)
 have oz := oy.far hp2 z1y (by decide) (by decide) (by decide) (by decide)
 have hil : i < (S.ps.set i q).length := by rw [List.length_set]; exact hi
 have hiq : (S.ps.set i q)[i]'hil = q := by simp
 have bx : Below B w wx := h.bel.trans (hb.mono hBr)
 have by_ : Below B w wy := bx.trans (hp1.toBelow (by omega) (Nat.le_trans hB bx.size))
 have bz : Below B w wz := by_.trans (hp2.toBelow (by omega) (Nat.le_trans hB by_.size))
 have b5 : Below B w w5 := bz.trans (hp3.toBelow hgp (Nat.le_trans hB bz.size))
 have hcr := h.cr
 have hkd : (k : Int) = 0 ∨ (k : Int) = 1 ∨ (k : Int) = 2 := by omega
 refine ⟨?_, ?_, b5, (hp3.far _ (blk_lt z0z) n0).trans z0z, ?_, ?_⟩
 · rw [amdK, h.eq, if_neg (by simp)]
   simp only [hamd]
   rw [if_neg (by simp)]
 · have e : (Value.slice (some ⟨gp, 0, none⟩) S.ps.length cap) = .slice (some ⟨gp, 0, none⟩) (S.ps.set i q).length cap := by rw [List.length_set]
   rw [e] at oz ⊢
   have hsu := setU_puts hil S.day (k : Int) op hkd
   rw [hiq] at hsu
   have := OwnV.puts (S := { S with ps := S.ps.set i q }) (ps := (S.ps.set i q).set i (Per.setO S.day q (k : Int) op)) oz (by show 0 < (S.ps.set i q).length; omega) hp3 (by simp) hsu
   rw [List.set_set] at this
   exact this
 · refine (hp3.far _ (blk_lt z1z) n1).trans (z1z.trans ?_)
   rcases (show k = 0 ∨ k = 1 ∨ k = 2 by omega) with rfl | rfl | rfl <;> rfl
 · have : (m.putK k c x).cr = m.cr + x := by
     unfold Mv.putK
     split
     · rfl
     · split <;> rfl
   rw [this, Int.natCast_add]; omega
theorem am_endA {w W W2 : World} {B gb gf : Nat} {S : Ac} {vp vq : Value} {qs : List PmE} {o : Obj} {d0 d1 d2 d3 : Int} (h : AmBox w W B gb S vp vq qs) (hf : W.heap[gf]? = some o) (hb : Below W.heap.size W W2) :
  AmBox w (W2.alloc (.cells #[.int .i64 d0, .int .i64 d1, .int .i64 d2, .int .i64 d3] 85)) B gb S vp vq qs ∧ (W2.alloc (.cells #[.int .i64 d0, .int .i64 d1, .int .i64 d2, .int .i64 d3] 85)).heap[gf]? = some o ∧ (W2.alloc (.cells #[.int .i64 d0, .int .i64 d1, .int .i64 d2, .int .i64 d3] 85)).heap[W2.heap.size]? = some (bilO ⟨d0, d1, d2, d3⟩) :=
 ⟨(h.up hb).up (bnewU _ _), blk_alloc (blk_below hf hb (blk_lt hf)) _, blk_new _ _ rfl⟩
theorem am_endB {w W W2 : World} {B gb gf : Nat} {S : Ac} {vp vq : Value} {qs : List PmE} {o : Obj} {d0 d1 d2 d3 : Int} {x0 x1 x2 x3 : Value} (h : AmBox w W B gb S vp vq qs) (hf : W.heap[gf]? = some o) (hb : Below W.heap.size W W2) (hz : W2.heap[W.heap.size]? = some (.cells #[x0, x1, x2, x3] 85 (0, 0))) :
  AmBox w ((((W2.setCell ⟨W.heap.size, 0, none⟩ (.int .i64 d0)).setCell ⟨W.heap.size, 1, none⟩ (.int .i64 d1)).setCell ⟨W.heap.size, 2, none⟩ (.int .i64 d2)).setCell ⟨W.heap.size, 3, none⟩ (.int .i64 d3)) B gb S vp vq qs ∧ ((((W2.setCell ⟨W.heap.size, 0, none⟩ (.int .i64 d0)).setCell ⟨W.heap.size, 1, none⟩ (.int .i64 d1)).setCell ⟨W.heap.size, 2, none⟩ (.int .i64 d2)).setCell ⟨W.heap.size, 3, none⟩ (.int .i64 d3)).heap[gf]? = some o ∧ ((((W2.setCell ⟨W.heap.size, 0, none⟩ (.int .i64 d0)).setCell ⟨W.heap.size, 1, none⟩ (.int .i64 d1)).setCell ⟨W.heap.size, 2, none⟩ (.int .i64 d2)).setCell ⟨W.heap.size, 3, none⟩ (.int .i64 d3)).heap[W.heap.size]? = some (bilO ⟨d0, d1, d2, d3⟩) := by
 have q := ((((Puts.start (b := W.heap.size) (Below.refl W2.heap.size W2)).set 0 (.int .i64 d0)).set 1 (.int .i64 d1)).set 2 (.int .i64 d2)).set 3 (.int .i64 d3)
 have hl := blk_lt hf
 generalize (((W2.setCell ⟨W.heap.size, 0, none⟩ (.int .i64 d0)).setCell ⟨W.heap.size, 1, none⟩ (.int .i64 d1)).setCell ⟨W.heap.size, 2, none⟩ (.int .i64 d2)).setCell ⟨W.heap.size, 3, none⟩ (.int .i64 d3) = Y at *
 exact ⟨(h.up hb).puts q hz (by decide) (by decide) (by decide) (by decide) (by decide) h.bel.size, (q.far gf (Nat.lt_of_lt_of_le hl hb.size) (Nat.ne_of_lt hl)).trans (blk_below hf hb hl), q.near _ _ _ hz⟩
theorem amend1_any (gb B gn gi gw gs : Nat) (S : Ac) (A : Option Addr) (n c : Nat) (s : Sch) (per inc wh : Int) (i : Nat) (w : World) (h : OwnAt w B gb S) (hB : B ≤ w.heap.size) (hxn : w.heap[gn]? = some (.cells #[.int .i64 per] 3 (0, 0))) (hxi : w.heap[gi]? = some (.cells #[.int .i64 inc] 2 (0, 0))) (hxw : w.heap[gw]? = some (.cells #[.int .i64 wh] 2 (0, 0)))
  (hxs : w.heap[gs]? = some (.cells #[.slice A n c, .int .i64 s.ded, .int .i64 s.cred, .int .i64 s.lbp, .int .i64 s.most, .int .i64 s.least] 24 (0, 0))) (hG : Good S) (hnl : s.bs.length = n) (hr : Rd w w.heap.size 2 A n (brCs s.bs)) (hpl : S.place per = (i : Int)) (hi : i < S.ps.length) :
  Calls Tryz.prog 114 #[.pointer (some ⟨gb, 0, none⟩), .pointer (some ⟨gn, 0, none⟩), .pointer (some ⟨gi, 0, none⟩), .pointer (some ⟨gw, 0, none⟩), .pointer (some ⟨gs, 0, none⟩)] w (StepOf w B gb (amend1 S s i S.ps[i] inc wh)) := by
 obtain ⟨vp, vq, qs, h⟩ := h
 have hBg := h.hB
 have hgl := blk_lt h.hg
 have hb0 : Below w.heap.size w (w.alloc (.cells #[.int .i64 0, .int .i64 0, .int .i64 0, .int .i64 0, .int .i64 0, .int .i64 0] 33)) := bnewU _ _
 have hbox0 : AmBox w (w.alloc (.cells #[.int .i64 0, .int .i64 0, .int .i64 0, .int .i64 0, .int .i64 0, .int .i64 0] 33)) B gb S vp vq qs := ⟨h.below hb0, hb0, blk_new _ _ rfl⟩
 have hnp := hG.np
 have HF := hyd (find_any gb B S vp vq qs per _ hbox0.own (by omega))
 have cn : w.cell? ⟨gn, 0, none⟩ = some (.int .i64 per) := (blk_cell hxn 0).trans rfl
 have hnl1 := blk_lt hxn
 have hnw : gn ≠ w.heap.size := by omega
 have HBX0 := hyd hbox0
 have HXI := hyd hxi; have HXW := hyd hxw; have HXS := hyd hxs; have HG := hyd hG; have HNL := hyd hnl; have HR := hyd hr; have HPL := hyd hpl; have HI := hyd hi; have HV := hyd h
 have hper := hG.per _ (List.getElem_mem hi)
 have hret := (hG.per _ (List.getElem_mem hi)).ret
 obtain ⟨p, hp⟩ : ∃ p, S.ps[i]'hi = p := ⟨_, rfl⟩
 rw [hp] at hper hret ⊢
 have HPI := hyd hp
 have HPER := hyd hper
 obtain ⟨d0, d1, d2, d3, er, hch⟩ : ∃ d0 d1 d2 d3 er, changeS s p.ret (p.ret.other2 inc wh) = (⟨d0, d1, d2, d3⟩, er) := ⟨_, _, _, _, _, rfl⟩
 have HCH := hyd hch
 have HC := hyd (fun wx (hb : Below w.heap.size w wx) => change_any A n c s p.ret (p.ret.other2 inc wh) wx hnl ((hr.below hb).wider hb.size))
 rw [hch] at HC
 clear h hb0 hbox0 hxn hxi hxw hxs hG hnl hr hpl hper hp hch hret
 go_enter Tryz.func114, Tryz.ntmps114
 go_wp2_with fail
 refine HF.out.mono ?_; rintro e w1 ⟨hb1, ⟨hm, rfl⟩ | ⟨gp, cap, j, rfl, hj, hpj, rfl⟩⟩
 · exact absurd (hm.symm.trans HPL.out) (by omega)
 have hji : j = i := by have := hpj.symm.trans HPL.out; omega
 subst hji
 have hbox1 := HBX0.out.up hb1
 obtain ⟨⟨y0, y1, y2, y3, y4⟩, -⟩ := (hbox1.own.perA (i := j) HI.out).ret
 have hgpl := (hbox1.own.perA (i := j) HI.out).lt
 rw [HPI.out] at y0 y1 y2 y3 y4
 have HBX1 := hyd hbox1
 clear hb1 HF cn hpj hbox1
 go_upto_region 3 with fail
 have hbx := bnewU w1 (.cells #[.int .i64 p.ret.per, .int .i64 p.ret.due, .int .i64 p.ret.filed, .int .i64 p.ret.inc, .int .i64 p.ret.wh] 37)
 have hfx := blk_new w1 (.cells #[.int .i64 p.ret.per, .int .i64 p.ret.due, .int .i64 p.ret.filed, .int .i64 p.ret.inc, .int .i64 p.ret.wh] 37) rfl
 have hbox := HBX1.out.up hbx
 have hgfw : w.heap.size < w1.heap.size := blk_lt HBX1.out.z0
 obtain ⟨gf, hgf⟩ : ∃ gf, w1.heap.size = gf := ⟨_, rfl⟩
 rw [hgf] at hfx hgfw ⊢
 generalize w1.alloc (.cells #[.int .i64 p.ret.per, .int .i64 p.ret.due, .int .i64 p.ret.filed, .int .i64 p.ret.inc, .int .i64 p.ret.wh] 37) = X at *
 have ci : X.cell? ⟨gi, 0, none⟩ = some (.int .i64 inc) := (blk_cell (blk_below HXI.out hbox.bel (blk_lt HXI.out)) 0).trans rfl
 have cw : X.cell? ⟨gw, 0, none⟩ = some (.int .i64 wh) := (blk_cell (blk_below HXW.out hbox.bel (blk_lt HXW.out)) 0).trans rfl
 obtain ⟨f0, f1, f2, f3, f4, f5⟩ := cells5U hfx
 have hfl := blk_lt hfx
 have zi : gi < X.heap.size := Nat.lt_of_lt_of_le (blk_lt HXI.out) hbox.bel.size
 have zw : gw < X.heap.size := Nat.lt_of_lt_of_le (blk_lt HXW.out) hbox.bel.size
 have ni : gi ≠ gf := by have := blk_lt HXI.out; omega
 have nw : gw ≠ gf := by have := blk_lt HXW.out; omega
 have HFX := hyd hfx; have HBX := hyd hbox
 clear hbx hfx hbox hgf y0 y1 y2 y3 y4 HBX1 HBX0 hgpl
 go_cut [] from 23 to 26 (fun wc => AmBox w wc B gb S (.slice (some ⟨gp, 0, none⟩) S.ps.length cap) vq qs ∧ wc.heap[gf]? = some (rtO (p.ret.other2 inc wh)))
 case first =>
  go_region_with (fail)
  all_goals go_wp2_with fail
  all_goals go_meet
  all_goals
   first
    | (have q := ((Puts.start (b := gf) (Below.refl X.heap.size X)).set 3 (.int .i64 inc)).set 4 (.int .i64 wh)
       exact ⟨(HBX.out.puts q HFX.out (by decide) (by decide) (by decide) (by decide) (by decide) (Nat.le_of_lt hgfw)).up (Below.refl _ _).drew, q.near _ _ _ HFX.out⟩)
    | (have q := ((Puts.start (b := gf) (Below.refl X.heap.size X)).set 4 (.int .i64 wh)).set 3 (.int .i64 inc)
       exact ⟨(HBX.out.puts q HFX.out (by decide) (by decide) (by decide) (by decide) (by decide) (Nat.le_of_lt hgfw)).up (Below.refl _ _).drew, q.near _ _ _ HFX.out⟩)
 case rest =>
  obtain ⟨hbox, hff⟩ := hcut
  clear f0 f1 f2 f3 f4 f5 ci cw HFX HBX zi zw
  obtain ⟨⟨y0, y1, y2, y3, y4⟩, -⟩ := (hbox.own.perA (i := j) HI.out).ret
  have hgpl := (hbox.own.perA (i := j) HI.out).lt
  rw [HPI.out] at y0 y1 y2 y3 y4
  obtain ⟨f0, f1, f2, f3, f4, f5⟩ := cells5U hff
  obtain ⟨s0, s1, s2, s3, s4, s5, s6⟩ := cells6U (blk_below HXS.out hbox.bel (blk_lt HXS.out))
  have hsl : gs < wc.heap.size := Nat.lt_of_lt_of_le (blk_lt HXS.out) hbox.bel.size
  have hfl' := blk_lt hff
  have HBX := hyd hbox; have HFF := hyd hff
  have hba : Below wc.heap.size wc (wc.alloc (.cells #[.int .i64 0, .int .i64 0, .int .i64 0, .int .i64 0] 85)) := bnewU _ _
  have HBA := hyd hba
  have HC1 := hyd (HC.out wc.drew hbox.bel.drew)
  have HC2 := hyd (HC.out (wc.alloc (.cells #[.int .i64 0, .int .i64 0, .int .i64 0, .int .i64 0] 85)).drew (hbox.up hba).bel.drew)
  clear hbox hff HC hba
  simp only [Ret.other2] at f0 f1 f2 f3 f4 HC1 HC2
  have xw : wc.cell? ⟨gs, 0, none⟩ = some (.slice A n c) ∧ wc.cell? ⟨gs, 1, none⟩ = some (.int .i64 s.ded) ∧ wc.cell? ⟨gs, 2, none⟩ = some (.int .i64 s.cred) ∧ wc.cell? ⟨gs, 3, none⟩ = some (.int .i64 s.lbp) ∧ wc.cell? ⟨gs, 4, none⟩ = some (.int .i64 s.most) ∧ wc.cell? ⟨gs, 5, none⟩ = some (.int .i64 s.least) ∧ wc.cell? ⟨gp, j * 11, none⟩ = some (.int .i64 p.ret.per) ∧ wc.cell? ⟨gp, j * 11 + 1, none⟩ = some (.int .i64 p.ret.due) ∧ wc.cell? ⟨gp, j * 11 + 2, none⟩ = some (.int .i64 p.ret.filed) ∧ wc.cell? ⟨gp, j * 11 + 3, none⟩ = some (.int .i64 p.ret.inc) ∧ wc.cell? ⟨gp, j * 11 + 4, none⟩ = some (.int .i64 p.ret.wh) ∧ wc.cell? ⟨gf, 0, none⟩ = some (.int .i64 p.ret.per) ∧ wc.cell? ⟨gf, 1, none⟩ = some (.int .i64 p.ret.due) ∧ wc.cell? ⟨gf, 2, none⟩ = some (.int .i64 p.ret.filed) ∧ wc.cell? ⟨gf, 3, none⟩ = some (.int .i64 inc) ∧ wc.cell? ⟨gf, 4, none⟩ = some (.int .i64 wh) := ⟨s0, s1, s2, s3, s4, s5, y0, y1, y2, y3, y4, f0, f1, f2, f3, f4⟩
  have HXW2 := hyd (fun (wx : World) (hb : Below wc.heap.size wc wx) => (⟨cells_below hb hsl s0, cells_below hb hsl s1, cells_below hb hsl s2, cells_below hb hsl s3, cells_below hb hsl s4, cells_below hb hsl s5, cells_below hb hgpl y0, cells_below hb hgpl y1, cells_below hb hgpl y2, cells_below hb hgpl y3, cells_below hb hgpl y4, cells_below hb hfl' f0, cells_below hb hfl' f1, cells_below hb hfl' f2, cells_below hb hfl' f3, cells_below hb hfl' f4⟩ : wx.cell? ⟨gs, 0, none⟩ = some (.slice A n c) ∧ wx.cell? ⟨gs, 1, none⟩ = some (.int .i64 s.ded) ∧ wx.cell? ⟨gs, 2, none⟩ = some (.int .i64 s.cred) ∧ wx.cell? ⟨gs, 3, none⟩ = some (.int .i64 s.lbp) ∧ wx.cell? ⟨gs, 4, none⟩ = some (.int .i64 s.most) ∧ wx.cell? ⟨gs, 5, none⟩ = some (.int .i64 s.least) ∧ wx.cell? ⟨gp, j * 11, none⟩ = some (.int .i64 p.ret.per) ∧ wx.cell? ⟨gp, j * 11 + 1, none⟩ = some (.int .i64 p.ret.due) ∧ wx.cell? ⟨gp, j * 11 + 2, none⟩ = some (.int .i64 p.ret.filed) ∧ wx.cell? ⟨gp, j * 11 + 3, none⟩ = some (.int .i64 p.ret.inc) ∧ wx.cell? ⟨gp, j * 11 + 4, none⟩ = some (.int .i64 p.ret.wh) ∧ wx.cell? ⟨gf, 0, none⟩ = some (.int .i64 p.ret.per) ∧ wx.cell? ⟨gf, 1, none⟩ = some (.int .i64 p.ret.due) ∧ wx.cell? ⟨gf, 2, none⟩ = some (.int .i64 p.ret.filed) ∧ wx.cell? ⟨gf, 3, none⟩ = some (.int .i64 inc) ∧ wx.cell? ⟨gf, 4, none⟩ = some (.int .i64 wh)))
  have xw2 := xw
  have HXW3 := hyd xw
  have HXW4 := hyd xw
  go_upto_region 4 with fail
  go_cut [10, 11] from 27 to 36 (fun v10 v11 wd => v11 = .int .i64 er ∧ ∃ gl, v10 = .pointer (some ⟨gl, 0, none⟩) ∧ AmBox w wd B gb S (.slice (some ⟨gp, 0, none⟩) S.ps.length cap) vq qs ∧ wd.heap[gf]? = some (rtO (p.ret.other2 inc wh)) ∧ wd.heap[gl]? = some (bilO ⟨d0, d1, d2, d3⟩))
  case first =>
   go_region_held3 (fun w' => w'.cell? ⟨gs, 0, none⟩ = some (.slice A n c) ∧ w'.cell? ⟨gs, 1, none⟩ = some (.int .i64 s.ded) ∧ w'.cell? ⟨gs, 2, none⟩ = some (.int .i64 s.cred) ∧ w'.cell? ⟨gs, 3, none⟩ = some (.int .i64 s.lbp) ∧ w'.cell? ⟨gs, 4, none⟩ = some (.int .i64 s.most) ∧ w'.cell? ⟨gs, 5, none⟩ = some (.int .i64 s.least) ∧ w'.cell? ⟨gp, j * 11, none⟩ = some (.int .i64 p.ret.per) ∧ w'.cell? ⟨gp, j * 11 + 1, none⟩ = some (.int .i64 p.ret.due) ∧ w'.cell? ⟨gp, j * 11 + 2, none⟩ = some (.int .i64 p.ret.filed) ∧ w'.cell? ⟨gp, j * 11 + 3, none⟩ = some (.int .i64 p.ret.inc) ∧ w'.cell? ⟨gp, j * 11 + 4, none⟩ = some (.int .i64 p.ret.wh) ∧ w'.cell? ⟨gf, 0, none⟩ = some (.int .i64 p.ret.per) ∧ w'.cell? ⟨gf, 1, none⟩ = some (.int .i64 p.ret.due) ∧ w'.cell? ⟨gf, 2, none⟩ = some (.int .i64 p.ret.filed) ∧ w'.cell? ⟨gf, 3, none⟩ = some (.int .i64 inc) ∧ w'.cell? ⟨gf, 4, none⟩ = some (.int .i64 wh))
    ((first | (with_reducible exact xw) | exact xw | (with_reducible exact HXW2.out _ HBA.out) | (with_reducible exact HXW2.out _ HBA.out.drew) | exact HXW2.out _ HBA.out | (with_reducible exact xw2) | exact xw2 | exact HXW3.out | exact HXW4.out))
    ((go_at_call 115; first
      | ((with_reducible refine HC1.out.mono ?_); rintro e w2 ⟨rfl, hw2⟩; have HB2 : Hid (Below wc.heap.size wc w2) := hyd (below_drewA hw2); have xw2 := HXW2.out w2 HB2.out; have HXW3 := hyd (HXW2.out _ (HB2.out.alloc HB2.out.size (.cells #[.int .i64 0, .int .i64 0, .int .i64 0, .int .i64 0] 85))); have HXW4 := hyd (HXW2.out _ (HB2.out.alloc HB2.out.size (.cells #[.int .i64 d0, .int .i64 d1, .int .i64 d2, .int .i64 d3] 85))); clear hw2)
      | ((with_reducible refine HC2.out.mono ?_); rintro e w2 ⟨rfl, hw2⟩; have HB2 : Hid (Below wc.heap.size wc w2) := hyd (HBA.out.trans ((below_drewA hw2).mono HBA.out.size)); have xw2 := HXW2.out w2 HB2.out
         have HZ := hyd (blk_below (blk_new wc (.cells #[.int .i64 0, .int .i64 0, .int .i64 0, .int .i64 0] 85) rfl) (below_drewA hw2) (by simp)); obtain ⟨k0, k1, k2, k3, k4⟩ := cells4G HZ.out; have kl := blk_lt HZ.out
         have HXW3 := hyd (HXW2.out _ ((((HB2.out.setCell (p := ⟨wc.heap.size, 0, none⟩) (Nat.le_refl _) (.int .i64 d0)).setCell (p := ⟨wc.heap.size, 1, none⟩) (Nat.le_refl _) (.int .i64 d1)).setCell (p := ⟨wc.heap.size, 2, none⟩) (Nat.le_refl _) (.int .i64 d2)).setCell (p := ⟨wc.heap.size, 3, none⟩) (Nat.le_refl _) (.int .i64 d3))); have HXW4 := HXW3; clear hw2)))
   all_goals go_wp2_with fail
   all_goals go_meet
   all_goals first
    | (have e := am_endA (d0 := d0) (d1 := d1) (d2 := d2) (d3 := d3) HBX.out HFF.out HB2.out
       with_reducible exact ⟨rfl, w2.heap.size, rfl, e.1, e.2.1, e.2.2⟩)
    | (have e := am_endB (d0 := d0) (d1 := d1) (d2 := d2) (d3 := d3) HBX.out HFF.out HB2.out HZ.out
       with_reducible exact ⟨rfl, wc.heap.size, rfl, e.1, e.2.1, e.2.2⟩)
  case rest =>
   obtain ⟨rfl, gl, rfl, hbox, hff, hll⟩ := hcut
   have HO : Hid (amend1 S s j p inc wh = if er ≠ 0 then (S, Mv.zero, er) else if (amd3 S.day d2 (d1 - d3) (p.with_ (p.ret.other2 inc wh))).1 ≠ 0 then (S, Mv.zero, 2) else if (addS S.cr (amd3 S.day d2 (d1 - d3) (p.with_ (p.ret.other2 inc wh))).2.1.cr).2 ≠ 0 then (S, Mv.zero, 2) else
     ({ S with ps := S.ps.set j (amd3 S.day d2 (d1 - d3) (p.with_ (p.ret.other2 inc wh))).2.2, cr := (addS S.cr (amd3 S.day d2 (d1 - d3) (p.with_ (p.ret.other2 inc wh))).2.1.cr).1 }, (amd3 S.day d2 (d1 - d3) (p.with_ (p.ret.other2 inc wh))).2.1, 0)) := hyd (by unfold amend1; rw [HCH.out])
   obtain ⟨m0, m1, m2, m3, m4, m5, m6⟩ := cells6U hbox.z0
   have hml := blk_lt hbox.z0
   clear y0 y1 y2 y3 y4 f0 f1 f2 f3 f4 f5 s0 s1 s2 s3 s4 s5 s6 HC1 HC2 xw xw2 HXW2 HXW3 HXW4 HBX HFF HBA hgpl hsl hfl' hfl
   by_cases h0 : er = 0
   · subst h0
     have hk := change_ok (s := s) (p := p.ret) (inc := inc) (wh := wh) (by rw [HCH.out])
     rw [HCH.out] at hk
     obtain ⟨-, -, hk3, hk4, hk5, hk6⟩ := hk
     simp only at hk4 hk5 hk6
     have HK3 := hyd hk3
     obtain ⟨⟨y0, y1, y2, y3, y4⟩, ⟨v0, v1, v2, v3, v4⟩⟩ := (hbox.own.perA (i := j) HI.out).ret
     have hgpl := (hbox.own.perA (i := j) HI.out).lt
     rw [HPI.out] at y0 y1 y2 y3 y4
     obtain ⟨f0, f1, f2, f3, f4, f5⟩ := cells5U hff
     have hfl := blk_lt hff
     simp only [Ret.other2] at f0 f1 f2 f3 f4
     have HBX := hyd hbox; have HLL := hyd hll
     clear hk3 hbox hff hll
     go_upto_region 9 with fail
     obtain ⟨W, hW⟩ : ∃ W, (((((wc.setCell ⟨gp, j * 11, none⟩ (.int .i64 p.ret.per)).setCell ⟨gp, j * 11 + 1, none⟩ (.int .i64 p.ret.due)).setCell ⟨gp, j * 11 + 2, none⟩ (.int .i64 p.ret.filed)).setCell ⟨gp, j * 11 + 3, none⟩ (.int .i64 inc)).setCell ⟨gp, j * 11 + 4, none⟩ (.int .i64 wh)) = W := ⟨_, rfl⟩
     have hq : Puts wc gp (retU (j * 11) (p.ret.other2 inc wh)) W := by
      rw [← hW]
      exact (((((Puts.start (b := gp) (Below.refl wc.heap.size wc)).set (j * 11) (.int .i64 p.ret.per)).set (j * 11 + 1) (.int .i64 p.ret.due)).set (j * 11 + 2) (.int .i64 p.ret.filed)).set (j * 11 + 3) (.int .i64 inc)).set (j * 11 + 4) (.int .i64 wh)
     have hsz : W.heap.size = wc.heap.size := by rw [← hW]; simp only [World.size_setCell]
     have hinv0 := HBX.out.fresh HI.out hB (p.ret.other2 inc wh) hq d2 (d1 - d3)
     have hngl : gl ≠ gp := by
      obtain ⟨_, cs, hcs⟩ := own_block_type HBX.out.own.hp (b := gp) rfl
      exact ne_of_type' HLL.out hcs (by decide)
     have hll := blk_alloc ((hq.far gl (blk_lt HLL.out) hngl).trans HLL.out) (.cells #[.int .i64 0, .int .i64 0, .int .i64 0, .int .i64 0, .int .i64 0, .int .i64 0] 33)
     rw [HPI.out, hsz] at hinv0
     have hgmw : w.heap.size < wc.heap.size := blk_lt HBX.out.z0
     obtain ⟨gm, hgm⟩ : ∃ gm, wc.heap.size = gm := ⟨_, rfl⟩
     have hgml : gm < (W.alloc (.cells #[.int .i64 0, .int .i64 0, .int .i64 0, .int .i64 0, .int .i64 0, .int .i64 0] 33)).heap.size := by rw [← hgm]; exact blk_lt hinv0.z1
     rw [hgm] at hinv0 hgmw ⊢
     rw [hW]
     clear hW hq hsz y0 y1 y2 y3 y4 v0 v1 v2 v3 v4 f0 f1 f2 f3 f4 f5 HBX HLL hgpl hfl m0 m1 m2 m3 m4 m5 m6 hml
     generalize W.alloc (.cells #[.int .i64 0, .int .i64 0, .int .i64 0, .int .i64 0, .int .i64 0, .int .i64 0] 33) = Y at *
     obtain ⟨l0, l1, l2, l3, l4⟩ := cells4G hll
     have hlll := blk_lt hll
     have hwm : IntKind.i64.wrap (d1 - d3) = d1 - d3 := IntWalk.i64_in _ (by omega)
     have HINV0 := hyd hinv0
     have HP0 := hyd (HPER.out.with_ HK3.out)
     clear hinv0 hll
     go_wp2_with fail
     go_loopg [53] 3 (fun gh v53 wr => ∃ (k : Nat) (m : Mv) (q : Per), gh = 3 - k ∧ k ≤ 3 ∧ v53 = .int .i64 k ∧ AmInv w wr B gb gm S (.slice (some ⟨gp, 0, none⟩) S.ps.length cap) vq qs j d2 (d1 - d3) (p.with_ (p.ret.other2 inc wh)) k m q)
     case atStart => exact ⟨0, _, _, rfl, by omega, rfl, HINV0.out⟩
     case round =>
      obtain ⟨k, m, q, hgk, hk, rfl, hinv⟩ := hrel
      have HGH := hyd hgk; have HV := hyd hinv
      by_cases hlt : k < 3
      · skip
        have hjl : j < (S.ps.set j q).length := by rw [List.length_set]; exact HI.out
        have hjq : (S.ps.set j q)[j]'hjl = q := by simp
        have hpa := hinv.own.perA (S := { S with ps := S.ps.set j q }) (i := j) hjl
        rw [show ({ S with ps := S.ps.set j q } : Ac).ps[j]'hjl = q from hjq] at hpa
        have hG := HG.out
        have hqo := amdK_ok (m0 := d2) (m2 := d1 - d3) HP0.out hG.day hG.bp k (by omega) (by rw [hinv.eq])
        rw [hinv.eq] at hqo
        have hqok : PerOk S.day S.bp q := hqo.ok
        have hk3i : (k : Int) = 0 ∨ (k : Int) = 1 ∨ (k : Int) = 2 := by omega
        have hob := opn_bd hqok hk3i
        have r5 := hpa.kind hlt
        have hmo : -2251799813685248 ≤ moreK d2 (d1 - d3) k ∧ moreK d2 (d1 - d3) k ≤ 2251799813685248 := by
         unfold moreK; split
         · omega
         · split <;> omega
        have hx := fun wx => idx3 d2 (d1 - d3) hlt wx
        obtain ⟨o, ho⟩ : ∃ o, q.opn (k : Int) = o := ⟨_, rfl⟩
        obtain ⟨mo, hmoe⟩ : ∃ x, moreK d2 (d1 - d3) k = x := ⟨_, rfl⟩
        rw [hmoe] at hmo hx
        rw [ho] at hob r5
        have hgpl := hpa.lt
        have hgbr := blk_lt hinv.own.hg
        obtain ⟨x0, x1, x2, x3, x4, x5, x6⟩ := cells6U hinv.z1
        have hml := blk_lt hinv.z1
        have hcrb := hinv.cr
        obtain ⟨b1', cs1, hcs1⟩ := own_block_type hinv.own.hp (b := gp) rfl
        have n1 : gm ≠ gp := ne_of_type' hinv.z1 hcs1 (by decide)
        have n1' : gp ≠ gm := Ne.symm n1
        have n2 : gb ≠ gp := ne_of_type' hinv.own.hg hcs1 (by decide)
        have i1 : (0 : Int) ≤ (k : Int) := by omega
        have i2 : (k : Int) < 3 := by omega
        have hwn : IntKind.i64.wrap (-o) = -o := IntWalk.i64_in _ (by omega)
        have hwn2 : IntKind.i64.wrap (-mo) = -mo := IntWalk.i64_in _ (by omega)
        have hwn3 : IntKind.i64.wrap (-mo - o) = -mo - o := IntWalk.i64_in _ (by omega)
        obtain ⟨X, hX⟩ : ∃ X, max mo (-o) = X := ⟨_, rfl⟩
        obtain ⟨op, er, hadd⟩ : ∃ op er, addS o X = (op, er) := ⟨_, _, rfl⟩
        have HMO := hyd hmoe; have HOE := hyd ho; have HXE := hyd hX
        have HQ := hyd hqok
        have hopl := blk_lt hinv.own.hg
        clear hjq hpa hG hqo hqok hmoe ho hcs1 hgk
        by_cases hz : er = 0
        · subst hz
          obtain ⟨ho1, ho2, ho3⟩ := add_ok (by rw [hadd] : (addS o X).2 = 0)
          rw [hadd] at ho1
          simp only at ho1
          obtain ⟨x, hxe⟩ : ∃ x, max 0 (-mo - o) = x := ⟨_, rfl⟩
          have hxb : 0 ≤ x ∧ x ≤ 4503599627370496 := by omega
          have HAM : Hid (amd1 S.day (k : Int) (moreK d2 (d1 - d3) k) q = (0, op - o, x, Per.setO S.day q (k : Int) op)) := hyd (by
           unfold amd1; rw [HMO.out, HOE.out, HXE.out, hadd, if_neg (by simp), hxe])
          have HA : Hid (∀ wx, Calls Tryz.prog 43 #[.int .i64 o, .int .i64 (max mo (-o))] wx fun e w' => e = .returned (.int .i64 op) ∧ Below wx.heap.size wx w') := hyd (fun wx => by
           rw [hX]
           have h := uadd_yes o X wx (by rw [hadd])
           rw [hadd] at h; exact h)
          have hwc : IntKind.i64.wrap (m.cr + max 0 (-mo - o)) = m.cr + x := by rw [hxe]; exact IntWalk.i64_in _ (by omega)
          have hwo : IntKind.i64.wrap (op - o) = op - o := IntWalk.i64_in _ (by omega)
          have hBW : Below B w wr := hinv.bel
          have HXX := hyd hxe
          have hopb : -4611686018427387904 ≤ op ∧ op ≤ 4611686018427387904 := by omega
          clear hinv hadd hX hxe ho1 ho2 ho3
          go_upto_region 12 with fail
          go_cut [15] from 57 to 72 (fun v15 wx => v15 = .int .i64 op ∧ Below wr.heap.size wr wx)
          case first =>
           have HR5 := hyd r5
           clear hwc hwo
           go_region_held3 (fun w' => w'.cell? ⟨gp, j * 11 + 5 + k, none⟩ = some (.int .i64 o))
            ((first | (with_reducible exact r5) | exact r5 | (with_reducible exact HR5.out) | exact HR5.out))
            ((go_at_call 43; first | ((with_reducible refine (HA.out _).mono ?_); rintro e w2 ⟨rfl, hw2⟩; have HB2 : Hid (Below wr.heap.size wr w2) := hyd (by first | exact hw2 | exact below_drewA hw2); have HR5 := hyd (cells_below HB2.out hgpl r5); clear hw2)))
           all_goals go_wp2_with fail
           all_goals go_meet
           all_goals exact ⟨rfl, HB2.out⟩
          case rest =>
           obtain ⟨rfl, hbx⟩ := hcut
           have r5' := cells_below hbx hgpl r5
           have hox := HV.out.own.below hbx
           obtain ⟨b1'', cs1, hcs1⟩ := own_block_type hox.hp (b := gp) rfl
           have hm1x := blk_below HV.out.z1 hbx hml
           obtain ⟨x0', x1', x2', x3', x4', x5', x6'⟩ := cells6U hm1x
           have hmlx := blk_lt hm1x
           have hgplx : gp < wc.heap.size := Nat.lt_of_lt_of_le hgpl hbx.size
           have HBX := hyd hbx; have HM1X := hyd hm1x; have HOX := hyd hox
           clear hbx hox hcs1 hm1x x0 x1 x2 x3 x4 x5 x6 r5
           go_upto_region 13 with fail
           go_cut [] from 73 to 86 (fun wy => Puts wc gm [(4, .int .i64 (m.cr + x))] wy)
           case first =>
            go_region_with (fail)
            all_goals go_wp2_with fail
            all_goals go_meet
            all_goals exact ((Puts.start (b := gm) (Below.refl wc.heap.size wc)).set 4 (.int .i64 (m.cr + x))).drew
           case rest =>
            have hpy := hcut
            have hm1y := hpy.near _ _ _ HM1X.out
            have hoy := HOX.out.far hpy HM1X.out (by decide) (by decide) (by decide) (by decide)
            have hmly := blk_lt hm1y
            have c6y := fun i => blk_free hm1y i
            have ck : ∃ u, wc.cell? ⟨gm, k, none⟩ = some u := by
             rw [blk_cell hm1y k]
             rcases (show k = 0 ∨ k = 1 ∨ k = 2 by omega) with rfl | rfl | rfl
             · exact ⟨_, rfl⟩
             · exact ⟨_, rfl⟩
             · exact ⟨_, rfl⟩
            obtain ⟨u0, ck⟩ := ck
            have hpay := (hoy.perA (S := { S with ps := S.ps.set j q }) (i := j) hjl)
            rw [show ({ S with ps := S.ps.set j q } : Ac).ps[j]'hjl = q from (by simp : (S.ps.set j q)[j]'hjl = q)] at hpay
            have r5y := hpay.kind hlt
            rw [HOE.out] at r5y
            have hgply := hpay.lt
            have hgby := blk_lt hoy.hg
            have pz : Puts wc gm [(k, .int .i64 (op - o))] (wc.setCell ⟨gm, k, none⟩ (.int .i64 (op - o))) := (Puts.start (Below.refl _ _)).set k _
            have hoz := hoy.far pz hm1y (by decide) (by decide) (by decide) (by decide)
            have hpaz := (hoz.perA (S := { S with ps := S.ps.set j q }) (i := j) hjl)
            rw [show ({ S with ps := S.ps.set j q } : Ac).ps[j]'hjl = q from (by simp : (S.ps.set j q)[j]'hjl = q)] at hpaz
            have HSET := hyd (set_any gb gp (j * 11) S.day S.bp (k : Int) op (.int .i64 S.cr) (.slice (some ⟨gp, 0, none⟩) S.ps.length cap) vq 83 q _ hoz.hg hpaz n2 HG.out.day HQ.out.since0 hk3i (fun _ hle => HQ.out.int hle))
            have HST := hyd (fun w5 hp3 => AmInv.step (w5 := w5) HV.out HI.out hlt hB hgmw HAM.out HBX.out hpy pz hp3 hxb)
            clear hcut hpy hm1y hoy hpay pz hoz hpaz x0' x1' x2' x3' x4' x5' x6' r5'
            go_wp2_with fail
            refine HSET.out.mono ?_; rintro e w5 ⟨⟨v5, rfl⟩, hp5⟩
            have HFIN := hyd (HST.out w5 hp5)
            clear hp5
            go_wp2_with fail
            all_goals go_roundg (3 - (k + 1))
            case rel => exact ⟨k + 1, _, _, rfl, by omega, by go_num, HFIN.out⟩
            all_goals (have := HGH.out; omega)
        · have HA : Hid (∀ wx, Calls Tryz.prog 43 #[.int .i64 o, .int .i64 (max mo (-o))] wx fun e w' => e = pan 2 ∧ Below wx.heap.size wx w') := hyd (fun wx => by
            rw [hX]; exact uadd_no o X wx (by rw [hadd]; exact hz))
          have HERR : Hid (amend1 S s j p inc wh = (S, Mv.zero, 2)) := hyd (by
           have h1 : (amdK S.day d2 (d1 - d3) (p.with_ (p.ret.other2 inc wh)) (k + 1)).1 ≠ 0 := by
            rw [amdK, hinv.eq, if_neg (by simp)]
            have h2 : (amd1 S.day (k : Int) (moreK d2 (d1 - d3) k) q).1 = 2 := by
             unfold amd1; rw [HMO.out, HOE.out, HXE.out, hadd, if_pos hz]
            simp only [h2]
            rw [if_pos (by decide)]
            exact (by decide : (2 : Int) ≠ 0)
           have h3 : (amd3 S.day d2 (d1 - d3) (p.with_ (p.ret.other2 inc wh))).1 ≠ 0 := by
            have h4 := amdK_err h1 (2 - k)
            rw [show k + 1 + (2 - k) = 3 by omega] at h4
            exact h4
           rw [HO.out, if_neg (by simp), if_pos h3])
          have HBP := hyd (fun (w2 : World) (h : Below wr.drew.heap.size wr.drew w2) => (HV.out.bel.trans (((Below.refl _ _).drew.trans h).mono (Nat.le_trans hB HV.out.bel.size)) : Below B w w2))
          clear hinv hadd hX hz
          go_upto_region 12 with fail
          go_region_law (refine step_call2P rfl 43 (.tmp 62) (.tmp 71) 2 2 rfl (.int .i64 o) (.int .i64 (max mo (-o))) rfl rfl (add_enter _ _) ((HA.out _).mono ?_) ?_
                         · rintro e w2 ⟨rfl, hw2⟩; exact ⟨_, rfl, rfl, HBP.out w2 hw2, by rw [HERR.out]; exact .inr ⟨(by decide : (2 : Int) ≠ 0), .inr rfl⟩⟩)
          all_goals trivial
      · have hk3 : k = 3 := by omega
        subst hk3
        have HO3 : Hid (amend1 S s j p inc wh = if (addS S.cr m.cr).2 ≠ 0 then (S, Mv.zero, 2) else ({ S with ps := S.ps.set j q, cr := (addS S.cr m.cr).1 }, m, 0)) := hyd (by
         rw [HO.out, if_neg (by simp)]
         unfold amd3
         rw [hinv.eq, if_neg (by simp)])
        have hmm := amdK_ok (m0 := d2) (m2 := d1 - d3) HP0.out HG.out.day HG.out.bp 3 (by omega) (by rw [hinv.eq])
        rw [hinv.eq] at hmm
        have n7 : w.heap.size ≠ gb := by omega
        have n8 : gm ≠ gb := ne_of_type' hinv.z1 hinv.own.hg (by decide)
        obtain ⟨a0, a1, a2, a3, a4, a5⟩ := cells5U hinv.own.hg
        have hgbl := blk_lt hinv.own.hg
        obtain ⟨x0, x1, x2, x3, x4, x5, x6⟩ := cells6U hinv.z1
        have hml := blk_lt hinv.z1
        obtain ⟨cr', er, hadd⟩ : ∃ cr' er, addS S.cr m.cr = (cr', er) := ⟨_, _, rfl⟩
        have HBP := hyd (fun (w2 : World) (h : Below wr.drew.heap.size wr.drew w2) => (HV.out.bel.trans (((Below.refl _ _).drew.trans h).mono (Nat.le_trans hB HV.out.bel.size)) : Below B w w2))
        by_cases hz : er = 0
        · subst hz
          have HA := hyd (fun wx => uadd_yes S.cr m.cr wx (by rw [hadd]))
          rw [hadd] at HA
          have HOO : Hid (amend1 S s j p inc wh = ({ S with ps := S.ps.set j q, cr := cr' }, m, 0)) := hyd (by rw [HO3.out, hadd, if_neg (by simp)])
          clear hinv hadd hgk hmm a0 a1 a3 a4
          go_wp2_with fail
          go_region_law (first
           | (refine step_call2R rfl 43 (.tmp 108) (.tmp 110) 2 2 rfl (.int .i64 S.cr) (.int .i64 m.cr) rfl rfl (add_enter _ _) ?_
              refine (HA.out _).mono ?_; rintro e w6 ⟨rfl, hw6⟩; refine ⟨_, rfl, ?_⟩
              have hov6 := (HV.out.own.below (Below.refl _ _).drew).below hw6
              obtain ⟨f0, f1, f2, f3, f4, f5⟩ := cells5U hov6.hg
              have hm16 := blk_below (w := wr.drew) HV.out.z1 hw6 (blk_lt HV.out.z1)
              have hm06 := blk_below (w := wr.drew) HV.out.z0 hw6 (blk_lt HV.out.z0)
              obtain ⟨g0, g1, g2, g3, g4, g5, g6⟩ := cells6U hm16
              obtain ⟨h0, h1, h2, h3, h4, h5, h6⟩ := cells6U hm06
              have hgl6 := blk_lt hov6.hg; have hml6 := blk_lt hm16; have hml7 := blk_lt hm06
              have HOV6 := hyd hov6; have HM06 := hyd hm06
              have HBW6 : Hid (Below B w w6) := hyd (HBP.out w6 hw6)
              clear hw6 hov6 hm16 hm06 f0 f1 f3 f4))
          all_goals go_wp2_with fail
          all_goals
           have p6 := (Puts.start (b := gb) (Below.refl w6.heap.size w6)).set 2 (.int .i64 cr')
           have hov7 := HOV6.out.setCr p6
           have hm07 := (p6.far w.heap.size hml7 n7).trans HM06.out
           obtain ⟨E1, E2⟩ := step_last0 { S with ps := S.ps.set j q, cr := cr' } m (HBW6.out.setCell hBg (.int .i64 cr')) ⟨_, _, _, hov7⟩ hm07 hB
           rw [HOO.out]
           exact mv_ret m 0 w.heap.size rfl rfl rfl E1 E2
        · have HA := hyd (fun wx => uadd_no S.cr m.cr wx (by rw [hadd]; exact hz))
          have HOO : Hid (amend1 S s j p inc wh = (S, Mv.zero, 2)) := hyd (by rw [HO3.out, hadd, if_pos hz])
          clear hinv hadd hgk hmm a0 a1 a3 a4
          go_wp2_with fail
          go_region_law (refine step_call2P rfl 43 (.tmp 108) (.tmp 110) 2 2 rfl (.int .i64 S.cr) (.int .i64 m.cr) rfl rfl (add_enter _ _) ((HA.out _).mono ?_) ?_
                         · rintro e w2 ⟨rfl, hw2⟩; exact ⟨_, rfl, rfl, HBP.out w2 hw2, by rw [HOO.out]; exact .inr ⟨(by decide : (2 : Int) ≠ 0), .inr rfl⟩⟩)
          all_goals trivial
   · have hne : (er != 0) = true := by simpa using h0
     have HE := hyd (step_err (gb := gb) (r := amend1 S s j p inc wh) (hbox.bel.mono hB) hbox.z0 hB (by rw [HO.out, if_pos h0]) h0)
     clear hbox hff hll
     go_wp2_with fail
     exact mv_ret Mv.zero er w.heap.size rfl rfl rfl HE.out.1 HE.out.2
@[reducible] def amW0 (w : World) (A : Option Addr) (n c : Nat) (s : Sch) (per inc wh : Int) : World := ((((w.alloc (.cells #[.slice A n c, .int .i64 s.ded, .int .i64 s.cred, .int .i64 s.lbp, .int .i64 s.most, .int .i64 s.least] 24)).alloc (.cells #[.int .i64 per] 3)).alloc (.cells #[.int .i64 inc] 2)).alloc (.cells #[.int .i64 wh] 2)).alloc (.cells #[.int .i64 0, .int .i64 0, .int .i64 0, .int .i64 0, .int .i64 0, .int .i64 0] 33)
structure AmW (w X : World) (A : Option Addr) (n c : Nat) (s : Sch) (per inc wh : Int) : Prop where
 bel : Below w.heap.size w X
 sc : X.heap[w.heap.size]? = some (.cells #[.slice A n c, .int .i64 s.ded, .int .i64 s.cred, .int .i64 s.lbp, .int .i64 s.most, .int .i64 s.least] 24 (0, 0))
 nn : X.heap[w.heap.size + 1]? = some (.cells #[.int .i64 per] 3 (0, 0))
 i : X.heap[w.heap.size + 1 + 1]? = some (.cells #[.int .i64 inc] 2 (0, 0))
 wh : X.heap[w.heap.size + 1 + 1 + 1]? = some (.cells #[.int .i64 wh] 2 (0, 0))
 m : X.heap[w.heap.size + 1 + 1 + 1 + 1]? = some (.cells #[.int .i64 0, .int .i64 0, .int .i64 0, .int .i64 0, .int .i64 0, .int .i64 0] 33 (0, 0))
theorem AmW.up {w X Y : World} {A : Option Addr} {n c : Nat} {s : Sch} {per inc wh : Int} (h : AmW w X A n c s per inc wh) (hb : Below X.heap.size X Y) : AmW w Y A n c s per inc wh :=
 ⟨h.bel.trans (hb.mono h.bel.size), blk_below h.sc hb (blk_lt h.sc), blk_below h.nn hb (blk_lt h.nn), blk_below h.i hb (blk_lt h.i), blk_below h.wh hb (blk_lt h.wh), blk_below h.m hb (blk_lt h.m)⟩
theorem amW0_facts (w : World) (A : Option Addr) (n c : Nat) (s : Sch) (per inc wh : Int) : AmW w (amW0 w A n c s per inc wh) A n c s per inc wh :=
 ⟨(((((Below.refl _ _).alloc (Nat.le_refl _) _).alloc (by simp) _).alloc (by simp; omega) _).alloc (by simp; omega) _).alloc (by simp; omega) _,
  blk_alloc (blk_alloc (blk_alloc (blk_alloc (blk_new w _ rfl) _) _) _) _, blk_alloc (blk_alloc (blk_alloc (blk_new _ _ (by simp)) _) _) _, blk_alloc (blk_alloc (blk_new _ _ (by simp)) _) _, blk_alloc (blk_new _ _ (by simp)) _, blk_new _ _ (by simp)⟩
theorem uamend_any (g B : Nat) (S : Ac) (A : Option Addr) (n c : Nat) (s : Sch) (per inc wh : Int) (w : World) (h : OwnAt w B g S) (hG : Good S) (hn : s.bs.length = n) (hr : Rd w w.heap.size 2 A n (brCs s.bs)) :
  Calls Tryz.prog 55 #[.pointer (some ⟨g, 0, none⟩), schV A n c s, .int .i64 per, .int .i64 inc, .int .i64 wh] w (DoesOf w g S (amendS S s per inc wh)) := by
 have hgl := h.lt
 have HV := hyd h
 have hw0 := amW0_facts w A n c s per inc wh
 have HR := hyd hr; have HN := hyd hn; have HG := hyd hG
 obtain ⟨vp, vq, qs, hov⟩ := h
 have hov0 := hov.below hw0.bel
 have hnp := hG.np
 have HF := hyd (find_any g B S vp vq qs per _ hov0 (by omega))
 have HOV0 := hyd hov0
 have cn : (amW0 w A n c s per inc wh).cell? ⟨w.heap.size + 1, 0, none⟩ = some (.int .i64 per) := (blk_cell hw0.nn 0).trans rfl
 have hnl := blk_lt hw0.nn
 have n1 : w.heap.size + 1 + 1 + 1 + 1 ≠ g := by omega
 have hmf : ∀ (fn : Fn) (first cap : Array Value) (w : World), (Instr.makeFunc fn first cap).run Tryz.prog w = .ok (.func fn first cap) w := fun _ _ _ _ => rfl
 have HW0 := hyd hw0
 clear hov hov0 hr hn hG hw0
 go_enter Tryz.func55, Tryz.ntmps55
 go_wp2_with fail
 refine HF.out.mono ?_; rintro e w1 ⟨hb1, hh⟩
 have hw1 := HW0.out.up hb1
 have hov1 := HOV0.out.below hb1
 obtain ⟨m0, m1, m2, m3, m4, m5, m6⟩ := cells6U hw1.m
 have hml := blk_lt hw1.m
 have HW1 := hyd hw1; have HOV1 := hyd hov1
 clear hb1 hw1 hov1 HF cn hnl HW0 HOV0
 rcases hh with ⟨hpl, rfl⟩ | ⟨gp, cap, i, _, hi, hpl, rfl⟩
 · have HO : Hid (amendS S s per inc wh = (S, Mv.zero, 4)) := hyd (by unfold amendS; rw [if_pos hpl])
   have HE := hyd (err_end (S' := S) (m := Mv.zero) HW1.out.bel HV.out (show (4 : Int) ≠ 0 by decide) HW1.out.m (by omega))
   clear hpl
   go_wp2_with fail
   rw [HO.out]
   exact mv_ret Mv.zero 4 (w.heap.size + 1 + 1 + 1 + 1) rfl rfl rfl HE.out.1 HE.out.2
 · have hgd : S.ps.getD (S.place per).toNat Per.zero = S.ps[i]'hi := by
     rw [hpl, Int.toNat_natCast, List.getD_eq_getElem?_getD, List.getElem?_eq_getElem hi]; rfl
   have HO : Hid (amendS S s per inc wh = amend1 S s i (S.ps[i]'hi) inc wh) := hyd (by unfold amendS; rw [if_neg (by omega), hgd, hpl, Int.toNat_natCast])
   have HD := hyd (does4_any 114 (.pointer (some ⟨w.heap.size + 1, 0, none⟩)) (.pointer (some ⟨w.heap.size + 1 + 1, 0, none⟩)) (.pointer (some ⟨w.heap.size + 1 + 1 + 1, 0, none⟩)) (.pointer (some ⟨w.heap.size, 0, none⟩)) g B S (amend1 S s i (S.ps[i]'hi) inc wh) w1 ⟨_, _, _, HOV1.out⟩ HG.out.small (fun u wx => by kernel_rfl)
    (fun gb wy hby hBy ho => by
      have hwy := HW1.out.up hby
      exact amend1_any gb _ (w.heap.size + 1) (w.heap.size + 1 + 1) (w.heap.size + 1 + 1 + 1) w.heap.size S A n c s per inc wh i wy ho hBy hwy.nn hwy.i hwy.wh hwy.sc HG.out HN.out ((HR.out.below hwy.bel).wider hwy.bel.size) hpl hi))
   clear hpl hgd
   go_wp2_with fail
   refine HD.out.mono ?_; intro e w2 hd
   obtain ⟨m, er, rfl⟩ := hd.form
   have hm := move_keeps hd HW1.out.m n1
   clear m0 m1 m2 m3 m4 m5 m6
   obtain ⟨m0, m1, m2, m3, m4, m5, m6⟩ := cells6U hm
   have HE := hyd (DoesOf.wrap HW1.out.bel hd hm (by omega)); have HM := hyd (put6_at hm m)
   clear hd hm HD
   go_wp2_with fail
   rw [HO.out]
   exact mv_ret m er (w.heap.size + 1 + 1 + 1 + 1) rfl rfl rfl HM.out HE.out
end Go.Proofs.YtbjjgnaojoaoiaaGreat
