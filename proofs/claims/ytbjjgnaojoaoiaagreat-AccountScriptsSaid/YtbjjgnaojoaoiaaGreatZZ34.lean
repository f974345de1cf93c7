/- Laws. -/
import Derived.Test.YtbjjgnaojoaoiaaGreatZZ33
import Derived.Test.YtbjjgnaojoaoiaaGreatZZ13
namespace Go.Proofs.YtbjjgnaojoaoiaaGreat
open Go.ChangeShapes Go.WideShapes Go.Deep Go.RowKit Go
set_option linter.unusedVariables false
set_option linter.unusedSimpArgs false
set_option maxHeartbeats 1600000
set_option maxRecDepth 100000
section
variable {H : Type} {enc : TypeId × Value → H} {w : World} {base : Nat} {spare : Nat → Bool} {held : Bool}
theorem pair_elem {P : Program} {e : TypeId} {f0 f1 : Field} {n : Nat} {cs : List Value} {x : DataW H × List MemPlace} (he : P.underlying e = some (.struct #[f0, f1])) (hone : oneCellFields P #[f0, f1] = true) (hC : P.cellsOf e = 2)
  (i0 : P.underlying f0.type = some (.int .i64)) (i1 : P.underlying f1.type = some (.int .i64))
  (h : DataW.trod enc P w base spare held n e cs = some x) : ∃ z0 z1 : Int, cs = [.int .i64 z0, .int .i64 z1] := by
 obtain ⟨ys, m, _, _, hlen, hyl, hf⟩ := DataW.trod_struct he h
 rw [hC] at hlen
 match cs, hlen with
 | [c0, c1], _ =>
   match ys, hyl with
   | [y0, y1], _ =>
     obtain ⟨o0, k0⟩ := hone_of hone 0 f0 rfl
     obtain ⟨o1, k1⟩ := hone_of hone 1 f1 rfl
     have g0 : DataW.trod enc P w base spare held m f0.type [c0] = some y0 := by simpa [o0, k0] using hf 0 f0 rfl
     have g1 : DataW.trod enc P w base spare held m f1.type [c1] = some y1 := by simpa [o1, k1] using hf 1 f1 rfl
     obtain ⟨z0, e0, _, _⟩ := DataW.trod_int i0 g0
     obtain ⟨z1, e1, _, _⟩ := DataW.trod_int i1 g1
     simp at e0 e1
     exact ⟨z0, z1, by rw [e0, e1]⟩
theorem brs_of {P : Program} {t e : TypeId} {f0 f1 : Field} {fuel : Nat} {cs : List Value} {x : DataW H × List MemPlace} (ht : P.underlying t = some (.slice e)) (he : P.underlying e = some (.struct #[f0, f1])) (hone : oneCellFields P #[f0, f1] = true) (hC : P.cellsOf e = 2)
  (i0 : P.underlying f0.type = some (.int .i64)) (i1 : P.underlying f1.type = some (.int .i64))
  (h : DataW.trod enc P w base spare held fuel t cs = some x) :
  ∃ (A : Option Addr) (c : Nat) (l : List Br), cs = [.slice A l.length c] ∧ Rd w w.heap.size 2 A l.length (brCs l) := by
 rcases open_slice ht h with ⟨rfl, _⟩ | ⟨a, len, cap, m, n, D, Pl, rfl, hb, hl, hm, hmm, hx, hi⟩
 · exact ⟨none, 0, [], rfl, ⟨rfl, fun h => absurd h (by simp)⟩⟩
 · have hlm : len ≤ m := by rw [hmm]; split <;> omega
   have key : ∀ i, i < len → ∃ q : Br, w.cell? (a.add (i * 2 + 0)) = some (.int .i64 q.frm) ∧ w.cell? (a.add (i * 2 + 1)) = some (.int .i64 q.bp) := by
    intro i hil
    obtain ⟨cs', hc, ht'⟩ := hi i (by omega)
    rw [hC] at hc
    obtain ⟨z0, z1, rfl⟩ := pair_elem he hone hC i0 i1 ht'
    obtain ⟨_, _, hat⟩ := World.cells?_some hc
    have a0 := hat 0 (by omega); have a1 := hat 1 (by omega)
    rw [Go.Deep.add_add] at a0 a1
    exact ⟨⟨z0, z1⟩, a0, a1⟩
   let q : Nat → Br := fun i => if hil : i < len then Classical.choose (key i hil) else ⟨0, 0⟩
   have hq : ∀ i (hil : i < len), q i = Classical.choose (key i hil) := fun i hil => dif_pos hil
   have hlen : ((List.range len).map q).length = len := by simp
   have hget : ∀ k (hk : k < ((List.range len).map q).length), ((List.range len).map q)[k] = q k := fun k hk => by simp
   refine ⟨some a, cap, (List.range len).map q, by rw [hlen], brCs_len _, fun h0 => ?_⟩
   rw [hlen] at h0
   obtain ⟨_, s1, _⟩ := key 0 h0
   have hsp := spot_of_cell s1
   have hs : a.spot = none := by
    rw [show a.add (0 * 2 + 0) = a by simp [Addr.add]] at hsp; exact hsp
   have hblk := World.block_lt_of_cell? w _ s1
   rw [addr_add hs] at hblk
   refine ⟨a.block, a.off, by cases a; simp at hs; subst hs; rfl, hblk, fun j hj => ?_⟩
   rw [hlen] at hj
   have hk : j / 2 < len := by omega
   have sp := Classical.choose_spec (key (j / 2) hk)
   rw [← hq _ hk, addr_add hs, addr_add hs] at sp
   have hk' : j / 2 < ((List.range len).map q).length := by rw [hlen]; exact hk
   have hb2 := brCs_at _ (j / 2) hk'
   rw [fr_at _ _ hk', bpA_at _ _ hk', hget _ hk'] at hb2
   have hmod : j % 2 = 0 ∨ j % 2 = 1 := by omega
   rcases hmod with h | h
   · have e : j = j / 2 * 2 := by omega
     have e1 : j / 2 * 2 + 0 = j := by omega
     rw [e1] at sp
     rw [← e] at hb2
     rw [hb2.1]; exact sp.1
   · have e : j = j / 2 * 2 + 1 := by omega
     rw [← e] at sp hb2
     rw [hb2.2]; exact sp.2
theorem sched_form {fuel : Nat} {cs : List Value} {x : DataW H × List MemPlace} (h : DataW.trod enc Tryz.prog w base spare held fuel 24 cs = some x) :
  ∃ (A : Option Addr) (c : Nat) (s : Sch), cs = [.slice A s.bs.length c, .int .i64 s.ded, .int .i64 s.cred, .int .i64 s.lbp, .int .i64 s.most, .int .i64 s.least] ∧ Rd w w.heap.size 2 A s.bs.length (brCs s.bs) := by
 obtain ⟨ys, m, _, _, hlen, hyl, hf⟩ := DataW.trod_struct Tryz.underlying24 h
 have h6 : Tryz.prog.cellsOf 24 = 6 := by kernel_rfl
 have hsl : Tryz.prog.cellsOf 22 = 1 := by kernel_rfl
 have hi1 : Tryz.prog.cellsOf 2 = 1 := by kernel_rfl
 have hi2 : Tryz.prog.cellsOf 3 = 1 := by kernel_rfl
 rw [h6] at hlen
 match cs, hlen with
 | [c0, c1, c2, c3, c4, c5], _ =>
   match ys, hyl with
   | [y0, y1, y2, y3, y4, y5], _ =>
     have g0 : DataW.trod enc Tryz.prog w base spare held m 22 (([c0, c1, c2, c3, c4, c5].drop 0).take (Tryz.prog.cellsOf 22)) = some y0 := hf 0 _ rfl
     have g1 : DataW.trod enc Tryz.prog w base spare held m 2 (([c0, c1, c2, c3, c4, c5].drop 1).take (Tryz.prog.cellsOf 2)) = some y1 := hf 1 _ rfl
     have g2 : DataW.trod enc Tryz.prog w base spare held m 2 (([c0, c1, c2, c3, c4, c5].drop 2).take (Tryz.prog.cellsOf 2)) = some y2 := hf 2 _ rfl
     have g3 : DataW.trod enc Tryz.prog w base spare held m 3 (([c0, c1, c2, c3, c4, c5].drop 3).take (Tryz.prog.cellsOf 3)) = some y3 := hf 3 _ rfl
     have g4 : DataW.trod enc Tryz.prog w base spare held m 3 (([c0, c1, c2, c3, c4, c5].drop 4).take (Tryz.prog.cellsOf 3)) = some y4 := hf 4 _ rfl
     have g5 : DataW.trod enc Tryz.prog w base spare held m 2 (([c0, c1, c2, c3, c4, c5].drop 5).take (Tryz.prog.cellsOf 2)) = some y5 := hf 5 _ rfl
     rw [hsl] at g0; rw [hi1] at g1 g2 g5; rw [hi2] at g3 g4
     simp only [List.drop_succ_cons, List.drop_zero, List.take_succ_cons, List.take_zero] at g0 g1 g2 g3 g4 g5
     obtain ⟨A, c, l, e0, hr⟩ := brs_of Tryz.underlying22 Tryz.underlying160 (by kernel_rfl) (by kernel_rfl) Tryz.underlying2 Tryz.underlying3 g0
     obtain ⟨z1, e1, _, _⟩ := DataW.trod_int Tryz.underlying2 g1
     obtain ⟨z2, e2, _, _⟩ := DataW.trod_int Tryz.underlying2 g2
     obtain ⟨z3, e3, _, _⟩ := DataW.trod_int Tryz.underlying3 g3
     obtain ⟨z4, e4, _, _⟩ := DataW.trod_int Tryz.underlying3 g4
     obtain ⟨z5, e5, _, _⟩ := DataW.trod_int Tryz.underlying2 g5
     simp only [List.cons.injEq, and_true] at e0 e1 e2 e3 e4 e5
     subst e0 e1 e2 e3 e4 e5
     exact ⟨A, c, ⟨l, z1, z2, z3, z4, z5⟩, rfl, hr⟩
theorem ret_form {fuel : Nat} {cs : List Value} {x : DataW H × List MemPlace} (h : DataW.trod enc Tryz.prog w base spare held fuel 37 cs = some x) :
  ∃ r : Ret, cs = [.int .i64 r.per, .int .i64 r.due, .int .i64 r.filed, .int .i64 r.inc, .int .i64 r.wh] := by
 obtain ⟨ys, m, _, _, hlen, hyl, hf⟩ := DataW.trod_struct Tryz.underlying37 h
 have h5 : Tryz.prog.cellsOf 37 = 5 := by kernel_rfl
 have hi1 : Tryz.prog.cellsOf 2 = 1 := by kernel_rfl
 have hi2 : Tryz.prog.cellsOf 3 = 1 := by kernel_rfl
 rw [h5] at hlen
 match cs, hlen with
 | [c0, c1, c2, c3, c4], _ =>
   match ys, hyl with
   | [y0, y1, y2, y3, y4], _ =>
     have g0 : DataW.trod enc Tryz.prog w base spare held m 3 (([c0, c1, c2, c3, c4].drop 0).take (Tryz.prog.cellsOf 3)) = some y0 := hf 0 _ rfl
     have g1 : DataW.trod enc Tryz.prog w base spare held m 3 (([c0, c1, c2, c3, c4].drop 1).take (Tryz.prog.cellsOf 3)) = some y1 := hf 1 _ rfl
     have g2 : DataW.trod enc Tryz.prog w base spare held m 3 (([c0, c1, c2, c3, c4].drop 2).take (Tryz.prog.cellsOf 3)) = some y2 := hf 2 _ rfl
     have g3 : DataW.trod enc Tryz.prog w base spare held m 2 (([c0, c1, c2, c3, c4].drop 3).take (Tryz.prog.cellsOf 2)) = some y3 := hf 3 _ rfl
     have g4 : DataW.trod enc Tryz.prog w base spare held m 2 (([c0, c1, c2, c3, c4].drop 4).take (Tryz.prog.cellsOf 2)) = some y4 := hf 4 _ rfl
     rw [hi2] at g0 g1 g2; rw [hi1] at g3 g4
     simp only [List.drop_succ_cons, List.drop_zero, List.take_succ_cons, List.take_zero] at g0 g1 g2 g3 g4
     obtain ⟨z0, e0, _, _⟩ := DataW.trod_int Tryz.underlying3 g0
     obtain ⟨z1, e1, _, _⟩ := DataW.trod_int Tryz.underlying3 g1
     obtain ⟨z2, e2, _, _⟩ := DataW.trod_int Tryz.underlying3 g2
     obtain ⟨z3, e3, _, _⟩ := DataW.trod_int Tryz.underlying2 g3
     obtain ⟨z4, e4, _, _⟩ := DataW.trod_int Tryz.underlying2 g4
     simp only [List.cons.injEq, and_true] at e0 e1 e2 e3 e4
     subst e0 e1 e2 e3 e4
     exact ⟨⟨z0, z1, z2, z3, z4⟩, rfl⟩
end
end Go.Proofs.YtbjjgnaojoaoiaaGreat
