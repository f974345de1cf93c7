/- Laws. -/
import Derived.Test.YtbjjgnaojoaoiaaGreatZZ28
import Derived.Test.YtbjjgnaojoaoiaaGreatZZ34
namespace Go.Proofs.YtbjjgnaojoaoiaaGreat
open Go.ChangeShapes Go.WideShapes Go.Deep Go.RowKit Go
set_option linter.unusedVariables false
set_option linter.unusedSimpArgs false
set_option maxHeartbeats 1600000
set_option maxRecDepth 100000
def stpC (t : Stp) : List Value := [.int .i64 t.act, .slice t.A t.s.bs.length t.c, .int .i64 t.s.ded, .int .i64 t.s.cred, .int .i64 t.s.lbp, .int .i64 t.s.most, .int .i64 t.s.least, .int .i64 t.r.per, .int .i64 t.r.due, .int .i64 t.r.filed, .int .i64 t.r.inc, .int .i64 t.r.wh, .int .i64 t.n, .int .i64 t.a, .int .i64 t.b]
@[reducible] def stpO (t : Stp) : Obj := .cells #[.int .i64 t.act, .slice t.A t.s.bs.length t.c, .int .i64 t.s.ded, .int .i64 t.s.cred, .int .i64 t.s.lbp, .int .i64 t.s.most, .int .i64 t.s.least, .int .i64 t.r.per, .int .i64 t.r.due, .int .i64 t.r.filed, .int .i64 t.r.inc, .int .i64 t.r.wh, .int .i64 t.n, .int .i64 t.a, .int .i64 t.b] 56
@[reducible] def stpV (t : Stp) : Value := .agg #[.int .i64 t.act, .slice t.A t.s.bs.length t.c, .int .i64 t.s.ded, .int .i64 t.s.cred, .int .i64 t.s.lbp, .int .i64 t.s.most, .int .i64 t.s.least, .int .i64 t.r.per, .int .i64 t.r.due, .int .i64 t.r.filed, .int .i64 t.r.inc, .int .i64 t.r.wh, .int .i64 t.n, .int .i64 t.a, .int .i64 t.b]
def stpCs (l : List Stp) : List Value := l.flatMap stpC
theorem stpC_len (t : Stp) : (stpC t).length = 15 := rfl
structure RdS (w : World) (A : Option Addr) (n : Nat) (l : List Stp) : Prop where
 len : l.length = n
 row : Rd w w.heap.size 15 A n (stpCs l)
 brs : ∀ t ∈ l, Rd w w.heap.size 2 t.A t.s.bs.length (brCs t.s.bs)
theorem RdS.below {w w' : World} {A : Option Addr} {n : Nat} {l : List Stp} (h : RdS w A n l) (hb : Below w.heap.size w w') : RdS w' A n l :=
 ⟨h.len, (h.row.below hb).wider hb.size, fun t ht => ((h.brs t ht).below hb).wider hb.size⟩
structure StpAt (w : World) (b off : Nat) (t : Stp) : Prop where
 c0 : w.cell? ⟨b, off, none⟩ = some (.int .i64 t.act)
 c1 : w.cell? ⟨b, off + 1, none⟩ = some (.slice t.A t.s.bs.length t.c)
 c2 : w.cell? ⟨b, off + 2, none⟩ = some (.int .i64 t.s.ded)
 c3 : w.cell? ⟨b, off + 3, none⟩ = some (.int .i64 t.s.cred)
 c4 : w.cell? ⟨b, off + 4, none⟩ = some (.int .i64 t.s.lbp)
 c5 : w.cell? ⟨b, off + 5, none⟩ = some (.int .i64 t.s.most)
 c6 : w.cell? ⟨b, off + 6, none⟩ = some (.int .i64 t.s.least)
 c7 : w.cell? ⟨b, off + 7, none⟩ = some (.int .i64 t.r.per)
 c8 : w.cell? ⟨b, off + 8, none⟩ = some (.int .i64 t.r.due)
 c9 : w.cell? ⟨b, off + 9, none⟩ = some (.int .i64 t.r.filed)
 c10 : w.cell? ⟨b, off + 10, none⟩ = some (.int .i64 t.r.inc)
 c11 : w.cell? ⟨b, off + 11, none⟩ = some (.int .i64 t.r.wh)
 c12 : w.cell? ⟨b, off + 12, none⟩ = some (.int .i64 t.n)
 c13 : w.cell? ⟨b, off + 13, none⟩ = some (.int .i64 t.a)
 c14 : w.cell? ⟨b, off + 14, none⟩ = some (.int .i64 t.b)
theorem RdS.at_ {w : World} {A : Option Addr} {n : Nat} {l : List Stp} (h : RdS w A n l) {k : Nat} (hk : k < l.length) : ∃ b off, A = some ⟨b, off, none⟩ ∧ b < w.heap.size ∧ StpAt w b (off + k * 15) l[k] := by
 have hl := flat_len (c := stpC) stpC_len l
 have hn : l.length * 15 = n * 15 := by rw [h.len]
 obtain ⟨b, off, e, hb, hc⟩ := h.row.2 (by have := h.len; omega)
 have key : ∀ j, j < 15 → w.cell? ⟨b, off + k * 15 + j, none⟩ = (stpC l[k])[j]? := fun j hj => by
  have := hc (k * 15 + j) (by omega)
  rw [← Nat.add_assoc] at this
  exact this.trans (flat_at (c := stpC) stpC_len hk hj)
 exact ⟨b, off, e, hb, ⟨key 0 (by omega), key 1 (by omega), key 2 (by omega), key 3 (by omega), key 4 (by omega), key 5 (by omega), key 6 (by omega), key 7 (by omega), key 8 (by omega), key 9 (by omega), key 10 (by omega), key 11 (by omega), key 12 (by omega), key 13 (by omega), key 14 (by omega)⟩⟩
section
variable {H : Type} {enc : TypeId × Value → H} {w : World} {base : Nat} {spare : Nat → Bool} {held : Bool}
theorem step_form {fuel : Nat} {cs : List Value} {x : DataW H × List MemPlace} (h : DataW.trod enc Tryz.prog w base spare held fuel 56 cs = some x) :
  ∃ t : Stp, cs = stpC t ∧ Rd w w.heap.size 2 t.A t.s.bs.length (brCs t.s.bs) := by
 obtain ⟨ys, m, _, _, hlen, hyl, hf⟩ := DataW.trod_struct Tryz.underlying56 h
 have h15 : Tryz.prog.cellsOf 56 = 15 := by kernel_rfl
 have h6 : Tryz.prog.cellsOf 24 = 6 := by kernel_rfl
 have h5 : Tryz.prog.cellsOf 37 = 5 := by kernel_rfl
 have hi1 : Tryz.prog.cellsOf 2 = 1 := by kernel_rfl
 have hi2 : Tryz.prog.cellsOf 3 = 1 := by kernel_rfl
 rw [h15] at hlen
 match cs, hlen with
 | [c0, c1, c2, c3, c4, c5, c6, c7, c8, c9, c10, c11, c12, c13, c14], _ =>
   match ys, hyl with
   | [y0, y1, y2, y3, y4, y5], _ =>
     have g0 : DataW.trod enc Tryz.prog w base spare held m 3 (([c0, c1, c2, c3, c4, c5, c6, c7, c8, c9, c10, c11, c12, c13, c14].drop 0).take (Tryz.prog.cellsOf 3)) = some y0 := hf 0 _ rfl
     have g1 : DataW.trod enc Tryz.prog w base spare held m 24 (([c0, c1, c2, c3, c4, c5, c6, c7, c8, c9, c10, c11, c12, c13, c14].drop 1).take (Tryz.prog.cellsOf 24)) = some y1 := hf 1 _ rfl
     have g2 : DataW.trod enc Tryz.prog w base spare held m 37 (([c0, c1, c2, c3, c4, c5, c6, c7, c8, c9, c10, c11, c12, c13, c14].drop 7).take (Tryz.prog.cellsOf 37)) = some y2 := hf 2 _ rfl
     have g3 : DataW.trod enc Tryz.prog w base spare held m 3 (([c0, c1, c2, c3, c4, c5, c6, c7, c8, c9, c10, c11, c12, c13, c14].drop 12).take (Tryz.prog.cellsOf 3)) = some y3 := hf 3 _ rfl
     have g4 : DataW.trod enc Tryz.prog w base spare held m 2 (([c0, c1, c2, c3, c4, c5, c6, c7, c8, c9, c10, c11, c12, c13, c14].drop 13).take (Tryz.prog.cellsOf 2)) = some y4 := hf 4 _ rfl
     have g5 : DataW.trod enc Tryz.prog w base spare held m 2 (([c0, c1, c2, c3, c4, c5, c6, c7, c8, c9, c10, c11, c12, c13, c14].drop 14).take (Tryz.prog.cellsOf 2)) = some y5 := hf 5 _ rfl
     rw [hi2] at g0 g3; rw [h6] at g1; rw [h5] at g2; rw [hi1] at g4 g5
     simp only [List.drop_succ_cons, List.drop_zero, List.take_succ_cons, List.take_zero] at g0 g1 g2 g3 g4 g5
     obtain ⟨z0, e0, _, _⟩ := DataW.trod_int Tryz.underlying3 g0
     obtain ⟨A, c, s, e1, hr⟩ := sched_form g1
     obtain ⟨r, e2⟩ := ret_form g2
     obtain ⟨z3, e3, _, _⟩ := DataW.trod_int Tryz.underlying3 g3
     obtain ⟨z4, e4, _, _⟩ := DataW.trod_int Tryz.underlying2 g4
     obtain ⟨z5, e5, _, _⟩ := DataW.trod_int Tryz.underlying2 g5
     simp only [List.cons.injEq, and_true] at e0 e1 e2 e3 e4 e5
     obtain ⟨rfl, rfl, rfl, rfl, rfl, rfl⟩ := e1
     obtain ⟨rfl, rfl, rfl, rfl, rfl⟩ := e2
     subst e0 e3 e4 e5
     exact ⟨⟨z0, A, c, s, r, z3, z4, z5⟩, rfl, hr⟩
theorem steps_of {fuel : Nat} {cs : List Value} {x : DataW H × List MemPlace} (h : DataW.trod enc Tryz.prog w base spare held fuel 51 cs = some x) :
  ∃ (A : Option Addr) (c : Nat) (l : List Stp), cs = [.slice A l.length c] ∧ l.length ≤ maxLen ∧ RdS w A l.length l := by
 have hC : Tryz.prog.cellsOf 56 = 15 := by kernel_rfl
 rcases open_slice Tryz.underlying51 h with ⟨rfl, _⟩ | ⟨a, len, cap, m, n, D, Pl, rfl, hb, hl, hm, hmm, hx, hi⟩
 · exact ⟨none, 0, [], rfl, by simp, ⟨rfl, ⟨rfl, fun h => absurd h (by simp)⟩, fun t ht => by simp at ht⟩⟩
 · have hlm : len ≤ m := by rw [hmm]; split <;> omega
   have key : ∀ i, i < len → ∃ t : Stp, Rd w w.heap.size 2 t.A t.s.bs.length (brCs t.s.bs) ∧ ∀ j, j < 15 → w.cell? (a.add (i * 15 + j)) = (stpC t)[j]? := by
    intro i hil
    obtain ⟨cs', hc, ht'⟩ := hi i (by omega)
    rw [hC] at hc
    obtain ⟨t, rfl, hr⟩ := step_form ht'
    obtain ⟨_, _, hat⟩ := World.cells?_some hc
    refine ⟨t, hr, fun j hj => ?_⟩
    have a0 := hat j hj
    rw [Go.Deep.add_add] at a0
    exact a0
   let q : Nat → Stp := fun i => if hil : i < len then Classical.choose (key i hil) else ⟨0, none, 0, ⟨[], 0, 0, 0, 0, 0⟩, ⟨0, 0, 0, 0, 0⟩, 0, 0, 0⟩
   have hq : ∀ i (hil : i < len), q i = Classical.choose (key i hil) := fun i hil => dif_pos hil
   have hlen : ((List.range len).map q).length = len := by simp
   have hget : ∀ k (hk : k < ((List.range len).map q).length), ((List.range len).map q)[k] = q k := fun k hk => by simp
   refine ⟨some a, cap, (List.range len).map q, by rw [hlen], by rw [hlen]; omega, ⟨rfl, ⟨flat_len (c := stpC) stpC_len _, fun h0 => ?_⟩, fun t ht => ?_⟩⟩
   · rw [hlen] at h0
     obtain ⟨_, _, s1⟩ := key 0 (by omega)
     have s1 := s1 0 (by omega)
     rw [show (stpC _)[0]? = some _ from rfl] at s1
     have hsp := spot_of_cell s1
     have hs : a.spot = none := by
      rw [show a.add (0 * 15 + 0) = a by simp [Addr.add]] at hsp; exact hsp
     have hblk := World.block_lt_of_cell? w _ s1
     rw [addr_add hs] at hblk
     refine ⟨a.block, a.off, by cases a; simp at hs; subst hs; rfl, hblk, fun j hj => ?_⟩
     rw [hlen] at hj
     have hk : j / 15 < len := by omega
     have sp := (Classical.choose_spec (key (j / 15) hk)).2 (j % 15) (by omega)
     rw [← hq (j / 15) hk] at sp
     rw [addr_add hs] at sp
     have hkl : j / 15 < ((List.range len).map q).length := by rw [hlen]; exact hk
     have e : (stpCs ((List.range len).map q))[j / 15 * 15 + j % 15]? = (stpC ((List.range len).map q)[j / 15])[j % 15]? := flat_at (c := stpC) stpC_len hkl (by omega)
     rw [hget _ hkl] at e
     have ej : j / 15 * 15 + j % 15 = j := by omega
     rw [ej] at e sp
     unfold stpCs at e
     show _ = (List.flatMap stpC _)[j]?
     rw [e]; exact sp
   · obtain ⟨i, hi', rfl⟩ := List.mem_map.1 ht
     have hil := List.mem_range.1 hi'
     rw [hq i hil]; exact (Classical.choose_spec (key i hil)).1
end
end Go.Proofs.YtbjjgnaojoaoiaaGreat
