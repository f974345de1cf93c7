/- What stands behind a quotient in wide numbers; three cells that stay. -/
import Derived.Test.YtilcgpaefkapaaaR3
import Derived.Test.YtilcgpaefkapaaaX
import Derived.Test.YtilcgpaefkapaaaY
namespace Go.Proofs.Ytilcgpaefkapaaa
open Go.RowKit Go
set_option linter.unusedVariables false
set_option linter.unusedSimpArgs false

def WideAtE (q r : Int) (w : World) (vp vr : Value) (wx : World) : Prop := ∃ (g : Nat) (n' : Bool) (m : Int), vp = .pointer (some ⟨g, 0, none⟩) ∧ vr = .int .i64 r ∧ wx.heap[g]? = some (.cells #[.bool n', .int .u64 (dg 0 m), .int .u64 (dg 1 m), .int .u64 (dg 2 m), .int .u64 (dg 3 m)] 58 (0, 0)) ∧ 0 ≤ m ∧ m < big ∧ wz n' m = q ∧ w.heap.size ≤ g ∧ Below w.heap.size w wx
theorem new_belowE {P w' : World} {o : Obj} (hb : Below (P.alloc o).heap.size (P.alloc o) w') : w'.heap[P.heap.size]? = some o := blk_below (blk_new P o rfl) hb (by simp)
theorem new_belowdE {P w' : World} {o : Obj} (hb : Below (P.alloc o).drew.heap.size (P.alloc o).drew w') : w'.heap[P.heap.size]? = some o := new_belowE ⟨hb.os, hb.tape, hb.output, hb.size, hb.block⟩
theorem bel_dE {P w' : World} (h : Below P.drew.heap.size P.drew w') : Below P.heap.size P w' := ⟨h.os, h.tape, h.output, h.size, h.block⟩
theorem bel_aE {P w' : World} {o : Obj} (h : Below (P.alloc o).heap.size (P.alloc o) w') : Below P.heap.size P w' := (below_new P o).trans (h.mono (by simp))
theorem bel4E {P w1 w3 w4 w5 : World} (h1 : Below P.heap.size P w1) (h3 : Below w1.heap.size w1 w3) (h4 : Below w3.heap.size w3 w4) (h5 : Below w4.heap.size w4 w5) : Below P.heap.size P w5 :=
  have a := h1.trans (h3.mono h1.size)
  have b := a.trans (h4.mono a.size)
  b.trans (h5.mono b.size)
theorem wide_endE {q r r' : Int} {wr W : World} {g : Nat} {n' : Bool} {m : Int} {v0 v1 v2 v3 v4 : Value} (hb : Below wr.heap.size wr W) (hg : W.heap[g]? = some (.cells #[v0, v1, v2, v3, v4] 58 (0, 0))) (hl : wr.heap.size ≤ g)
    (h0 : 0 ≤ m) (h1 : m < big) (hq : wz n' m = q) (hr : r' = r) : WideAtE q r wr (.pointer (some ⟨g, 0, none⟩)) (.int .i64 r') (((((W.setCell ⟨g, 0, none⟩ (.bool n')).setCell ⟨g, 1, none⟩ (.int .u64 (dg 0 m))).setCell ⟨g, 2, none⟩ (.int .u64 (dg 1 m))).setCell ⟨g, 3, none⟩ (.int .u64 (dg 2 m))).setCell ⟨g, 4, none⟩ (.int .u64 (dg 3 m))) := by
  subst hr
  exact ⟨g, n', m, rfl, rfl, set5_blk hg _ _ _ _ _, h0, h1, hq, hl, ((((hb.setCell hl _).setCell hl _).setCell hl _).setCell hl _).setCell hl _⟩
theorem wide_end0E {q r r' : Int} {wr W : World} {n' : Bool} {m : Int} (hb : Below wr.heap.size wr W)
    (h0 : 0 ≤ m) (h1 : m < big) (hq : wz n' m = q) (hr : r' = r) : WideAtE q r wr (.pointer (some ⟨W.heap.size, 0, none⟩)) (.int .i64 r') (W.alloc (.cells #[.bool n', .int .u64 (dg 0 m), .int .u64 (dg 1 m), .int .u64 (dg 2 m), .int .u64 (dg 3 m)] 58)) := by
  subst hr
  exact ⟨_, n', m, rfl, rfl, blk_new _ _ rfl, h0, h1, hq, hb.size, hb.alloc hb.size _⟩
theorem keep3E {W w1 : World} {p q s : Addr} {u v x : Value} (hs : W.cell? p = some u ∧ W.cell? q = some v ∧ W.cell? s = some x) (hb : Below W.heap.size W w1) : w1.cell? p = some u ∧ w1.cell? q = some v ∧ w1.cell? s = some x :=
  ⟨(hb.cell (World.block_lt_of_cell? _ _ hs.1)).trans hs.1, (hb.cell (World.block_lt_of_cell? _ _ hs.2.1)).trans hs.2.1, (hb.cell (World.block_lt_of_cell? _ _ hs.2.2)).trans hs.2.2⟩
theorem alloc3E {W : World} {p q s : Addr} {u v x : Value} (hs : W.cell? p = some u ∧ W.cell? q = some v ∧ W.cell? s = some x) (o : Obj) : (W.alloc o).cell? p = some u ∧ (W.alloc o).cell? q = some v ∧ (W.alloc o).cell? s = some x :=
  keep3E hs (below_new W o)
theorem drew3E {W : World} {p q s : Addr} {u v x : Value} (hs : W.cell? p = some u ∧ W.cell? q = some v ∧ W.cell? s = some x) : W.drew.cell? p = some u ∧ W.drew.cell? q = some v ∧ W.drew.cell? s = some x := hs
theorem far5E {W : World} {p : Addr} {u : Value} {g : Nat} (hs : W.cell? p = some u) (hne : p.block ≠ g) {v0 v1 v2 v3 v4 : Value} : (((((W.setCell ⟨g, 0, none⟩ v0).setCell ⟨g, 1, none⟩ v1).setCell ⟨g, 2, none⟩ v2).setCell ⟨g, 3, none⟩ v3).setCell ⟨g, 4, none⟩ v4).cell? p = some u := by
  have h : ∀ (w : World) (j : Nat) (v : Value), (w.setCell ⟨g, j, none⟩ v).cell? p = w.cell? p := fun w j v => World.cell?_of_block (Below.heap_setCell w ⟨g, j, none⟩ v p.block (fun e => hne e))
  rw [h, h, h, h, h]; exact hs
theorem set5_3E {W : World} {p q s : Addr} {u v x : Value} {g B : Nat} (hs : W.cell? p = some u ∧ W.cell? q = some v ∧ W.cell? s = some x) (hp : p.block < B ∧ q.block < B ∧ s.block < B) (hg : B ≤ g) (v0 v1 v2 v3 v4 : Value) :
    (((((W.setCell ⟨g, 0, none⟩ v0).setCell ⟨g, 1, none⟩ v1).setCell ⟨g, 2, none⟩ v2).setCell ⟨g, 3, none⟩ v3).setCell ⟨g, 4, none⟩ v4).cell? p = some u ∧ (((((W.setCell ⟨g, 0, none⟩ v0).setCell ⟨g, 1, none⟩ v1).setCell ⟨g, 2, none⟩ v2).setCell ⟨g, 3, none⟩ v3).setCell ⟨g, 4, none⟩ v4).cell? q = some v ∧ (((((W.setCell ⟨g, 0, none⟩ v0).setCell ⟨g, 1, none⟩ v1).setCell ⟨g, 2, none⟩ v2).setCell ⟨g, 3, none⟩ v3).setCell ⟨g, 4, none⟩ v4).cell? s = some x := by
  obtain ⟨h1, h2, h3⟩ := hp
  exact ⟨by rw [far5E hs.1 (by omega)], by rw [far5E hs.2.1 (by omega)], by rw [far5E hs.2.2 (by omega)]⟩
end Go.Proofs.Ytilcgpaefkapaaa
