/- The reference's Split. -/
import Derived.Test.YtjimahagfkpacaaW2
import Derived.Test.YtjimahagfkpacaaZ1
import Derived.Test.YtjimahagfkpacaaY
import Derived.Deep.DeepCutAuto
import Derived.Deep.CutBlock
namespace Go.Proofs.Ytjimahagfkpacaa
open Go.RowKit Go
set_option linter.unusedVariables false
set_option linter.unusedSimpArgs false

/-- The loop that divides, behind k rounds: the reference's. -/
structure DivR (a T : Int) (ws : List Int) (n g1 gr k : Nat) (w wr : World) : Prop where
  out : wr.heap[g1]? = some (.cells (ints (half (quoS a T (ws.take k)) n)).toArray 2 (0, 0))
  rst : wr.heap[gr]? = some (.cells (ints (half (rstS a T (ws.take k)) n)).toArray 2 (0, 0))
  bel : Below w.heap.size w wr
theorem DivR.up {a T : Int} {ws : List Int} {n g1 gr k : Nat} {w wr w' : World} (h : DivR a T ws n g1 gr k w wr) (hb : Below wr.heap.size wr w') : DivR a T ws n g1 gr k w w' :=
  ⟨blk_below h.out hb (blk_lt h.out), blk_below h.rst hb (blk_lt h.rst), h.bel.trans (hb.mono h.bel.size)⟩
theorem DivR.step {a T x : Int} {ws : List Int} {n g1 gr k : Nat} {w w1 : World} (h : DivR a T ws n g1 gr k w w1) (hne : g1 ≠ gr) (b1 : w.heap.size ≤ g1) (b2 : w.heap.size ≤ gr) (hk : k < ws.length) (hn : ws.length = n) (hx : ws[k] = x) :
    DivR a T ws n g1 gr (k + 1) w ((w1.setCell ⟨g1, k, none⟩ (.int .i64 (a * x / T))).setCell ⟨gr, k, none⟩ (.int .i64 (a * x % T))) := by
  have l1 : (quoS a T (ws.take k)).length = k := by rw [quoS_len, List.length_take]; omega
  have l2 : (rstS a T (ws.take k)).length = k := by rw [rstS_len, List.length_take]; omega
  have e1 : half (quoS a T (ws.take (k + 1))) n = (half (quoS a T (ws.take k)) n).set k (a * x / T) := by rw [quoS_take _ _ _ _ hk, half_set _ _ l1 (by omega), hx]
  have e2 : half (rstS a T (ws.take (k + 1))) n = (half (rstS a T (ws.take k)) n).set k (a * x % T) := by rw [rstS_take _ _ _ _ hk, half_set _ _ l2 (by omega), hx]
  refine ⟨?_, ?_, ?_⟩
  · rw [e1, ← ints_set]; exact blk_far (p := ⟨gr, k, none⟩) (blk_set h.out k _) hne _
  · rw [e2, ← ints_set]; exact blk_set (blk_far (p := ⟨g1, k, none⟩) h.rst (Ne.symm hne) _) k _
  · exact (h.bel.setCell (p := ⟨g1, k, none⟩) b1 _).setCell (p := ⟨gr, k, none⟩) b2 _

theorem DivRes.pre {n : Bool} {m c : Int} {w w' : World} {e : Ending} (h : DivRes n m c w e w') : ∃ n' q, e = .returned (.tuple #[wd n' q, .int .i64 (wz n m % c)]) ∧ 0 ≤ q ∧ q ≤ m ∧ Hid (wz n' q = wz n m / c) ∧ Below w.heap.size w w' := by
  obtain ⟨⟨n', q, h1, h2, h3, h4⟩, h5⟩ := h
  exact ⟨n', q, h1, h2, h3, h4, h5⟩
/-- What stands behind a quotient in wide numbers. -/
def WideAt (q r : Int) (w : World) (vp vr : Value) (wx : World) : Prop := ∃ (g : Nat) (n' : Bool) (m : Int), vp = .pointer (some ⟨g, 0, none⟩) ∧ vr = .int .i64 r ∧ wx.heap[g]? = some (.cells #[.bool n', .int .u64 (dg 0 m), .int .u64 (dg 1 m), .int .u64 (dg 2 m), .int .u64 (dg 3 m)] 37 (0, 0)) ∧ 0 ≤ m ∧ m < big ∧ wz n' m = q ∧ w.heap.size ≤ g ∧ Below w.heap.size w wx
theorem keep_cell {W w1 : World} {p : Addr} {v : Value} (hs : W.cell? p = some v) (hb : Below W.heap.size W w1) : w1.cell? p = some v := (hb.cell (World.block_lt_of_cell? _ _ hs)).trans hs
theorem alloc_cell {W : World} {p : Addr} {v : Value} (hs : W.cell? p = some v) (o : Obj) : (W.alloc o).cell? p = some v := (World.cell?_alloc_lt _ _ _ (World.block_lt_of_cell? _ _ hs)).trans hs
theorem blk_newd (w : World) (o : Obj) {g : Nat} (h : g = w.heap.size) : (w.alloc o).drew.heap[g]? = some o := blk_new w o h
theorem new_below {P w' : World} {o : Obj} (hb : Below (P.alloc o).heap.size (P.alloc o) w') : w'.heap[P.heap.size]? = some o := blk_below (blk_new P o rfl) hb (by simp)
theorem new_belowd {P w' : World} {o : Obj} (hb : Below (P.alloc o).drew.heap.size (P.alloc o).drew w') : w'.heap[P.heap.size]? = some o := new_below ⟨hb.os, hb.tape, hb.output, hb.size, hb.block⟩
theorem drew_cell {W : World} {p : Addr} {v : Value} (hs : W.cell? p = some v) : W.drew.cell? p = some v := hs
theorem set5_cell {W : World} {b i g : Nat} {v : Value} (hs : W.cell? ⟨b, i, none⟩ = some v) (hne : b ≠ g) (v0 v1 v2 v3 v4 : Value) :
    (((((W.setCell ⟨g, 0, none⟩ v0).setCell ⟨g, 1, none⟩ v1).setCell ⟨g, 2, none⟩ v2).setCell ⟨g, 3, none⟩ v3).setCell ⟨g, 4, none⟩ v4).cell? ⟨b, i, none⟩ = some v :=
  far_cell (far_cell (far_cell (far_cell (far_cell hs hne _) hne _) hne _) hne _) hne _
/-- The three calls, as they come. -/
theorem mul_wide {a x : Int} (ha : amt a = true) (hx : amt x = true) (w : World) : Calls Try.prog 22 #[wd (decide (a < 0)) a.natAbs, wd (decide (x < 0)) x.natAbs] w fun e w' => e = .returned (wd (decide (a < 0) != decide (x < 0)) (a.natAbs * x.natAbs)) ∧ Below w.heap.size w w' :=
  wmul_any _ _ _ _ _ (amt_abs2 ha) (amt_abs2 hx)
theorem bel_d {P w' : World} (h : Below P.drew.heap.size P.drew w') : Below P.heap.size P w' := ⟨h.os, h.tape, h.output, h.size, h.block⟩
theorem bel_a {P w' : World} {o : Obj} (h : Below (P.alloc o).heap.size (P.alloc o) w') : Below P.heap.size P w' := (below_new P o).trans (h.mono (by simp))
theorem bel4 {P w1 w3 w4 w5 : World} (h1 : Below P.heap.size P w1) (h3 : Below w1.heap.size w1 w3) (h4 : Below w3.heap.size w3 w4) (h5 : Below w4.heap.size w4 w5) : Below P.heap.size P w5 :=
  have a := h1.trans (h3.mono h1.size)
  have b := a.trans (h4.mono a.size)
  b.trans (h5.mono b.size)
theorem wide_end {q r r' : Int} {wr W : World} {g : Nat} {n' : Bool} {m : Int} {v0 v1 v2 v3 v4 : Value} (hb : Below wr.heap.size wr W) (hg : W.heap[g]? = some (.cells #[v0, v1, v2, v3, v4] 37 (0, 0))) (hl : wr.heap.size ≤ g)
    (h0 : 0 ≤ m) (h1 : m < big) (hq : wz n' m = q) (hr : r' = r) : WideAt q r wr (.pointer (some ⟨g, 0, none⟩)) (.int .i64 r') (((((W.setCell ⟨g, 0, none⟩ (.bool n')).setCell ⟨g, 1, none⟩ (.int .u64 (dg 0 m))).setCell ⟨g, 2, none⟩ (.int .u64 (dg 1 m))).setCell ⟨g, 3, none⟩ (.int .u64 (dg 2 m))).setCell ⟨g, 4, none⟩ (.int .u64 (dg 3 m))) := by
  subst hr
  exact ⟨g, n', m, rfl, rfl, set5_blk hg _ _ _ _ _, h0, h1, hq, hl, ((((hb.setCell hl _).setCell hl _).setCell hl _).setCell hl _).setCell hl _⟩
theorem wide_end0 {q r r' : Int} {wr W : World} {n' : Bool} {m : Int} (hb : Below wr.heap.size wr W)
    (h0 : 0 ≤ m) (h1 : m < big) (hq : wz n' m = q) (hr : r' = r) : WideAt q r wr (.pointer (some ⟨W.heap.size, 0, none⟩)) (.int .i64 r') (W.alloc (.cells #[.bool n', .int .u64 (dg 0 m), .int .u64 (dg 1 m), .int .u64 (dg 2 m), .int .u64 (dg 3 m)] 37)) := by
  subst hr
  exact ⟨_, n', m, rfl, rfl, blk_new _ _ rfl, h0, h1, hq, hb.size, hb.alloc hb.size _⟩
theorem markS_at (q d : List Int) (k i : Nat) (h : i < q.length) : (markS q d k)[i]'(by rw [markS_len]; exact h) = if (i : Int) ∈ d.take k then -1 else q[i] := by simp [markS]
/-- The loop that hands out what is left, behind j rounds. -/
structure TopR (a T : Int) (ws d : List Int) (g1 gr j : Nat) (w wr : World) : Prop where
  out : wr.heap[g1]? = some (.cells (ints (topS (quoS a T ws) d j)).toArray 2 (0, 0))
  rst : wr.heap[gr]? = some (.cells (ints (markS (rstS a T ws) d j)).toArray 2 (0, 0))
  bel : Below w.heap.size w wr
theorem TopR.drewN {a T : Int} {ws d : List Int} {g1 gr j : Nat} {w wr : World} (h : TopR a T ws d g1 gr j w wr) (n : Nat) : TopR a T ws d g1 gr j w (wr.drewN n) := ⟨h.out, h.rst, below_drewN h.bel n⟩
theorem TopR.step {a T v : Int} {ws d : List Int} {g1 gr j p : Nat} {w wr : World} (h : TopR a T ws d g1 gr j w wr) (hne : g1 ≠ gr) (b1 : w.heap.size ≤ g1) (b2 : w.heap.size ≤ gr) (hn : d.Nodup) (hj : j < d.length) (ep : d[j] = (p : Int)) (hp : p < ws.length)
    (hv : (topS (quoS a T ws) d j)[p]'(by rw [topS_len, quoS_len]; exact hp) = v) : TopR a T ws d g1 gr (j + 1) w ((wr.setCell ⟨g1, p, none⟩ (.int .i64 (v + 1))).setCell ⟨gr, p, none⟩ (.int .i64 (-1))) := by
  have e1 := topS_step (q := quoS a T ws) hn hj ep (by rw [quoS_len]; exact hp)
  have e2 := markS_step (q := rstS a T ws) hj ep (by rw [rstS_len]; exact hp)
  rw [hv] at e1
  refine ⟨?_, ?_, ?_⟩
  · rw [e1, ← ints_set]; exact blk_far (p := ⟨gr, p, none⟩) (blk_set h.out p _) hne _
  · rw [e2, ← ints_set]; exact blk_set (blk_far (p := ⟨g1, p, none⟩) h.rst (Ne.symm hne) _) p _
  · exact (h.bel.setCell (p := ⟨g1, p, none⟩) b1 _).setCell (p := ⟨gr, p, none⟩) b2 _
theorem rst_nonneg {a T : Int} {ws : List Int} (hT : 0 < T) (i : Nat) (h : i < ws.length) : 0 ≤ (rstS a T ws)[i]'(by rw [rstS_len]; exact h) := by
  simp only [rstS, List.getElem_map]; exact Int.emod_nonneg _ (by omega)
theorem Best.bd {r d : List Int} {k i : Nat} {b : Int} (h : Best r d k i b) : b = -1 ∨ ∃ j : Nat, b = j ∧ j < i ∧ (j : Int) ∉ d.take k := by
  rcases h with ⟨h, _⟩ | ⟨j, h1, h2, h3, _⟩
  · exact .inl h
  · exact .inr ⟨j, h1, h2, h3⟩
end Go.Proofs.Ytjimahagfkpacaa
