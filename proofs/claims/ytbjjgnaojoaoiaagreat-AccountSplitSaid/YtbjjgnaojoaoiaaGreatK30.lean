/- A slice of structs of four int fields that came in. -/
import Derived.WalkKit
import Derived.Deep.Slices
import Derived.Deep.Fields
import Derived.ChangeSame
import Derived.OpenShut
namespace Go.Proofs.YtbjjgnaojoaoiaaGreat
open Go.ChangeShapes Go.WideShapes Go.Deep Go.RowKit Go
set_option linter.unusedVariables false

def i64ok (z : Int) : Prop := -9223372036854775808 ≤ z ∧ z ≤ 9223372036854775807

theorem spot_of_cell {w : World} {a : Addr} {v : Value} (h : w.cell? a = some v) : a.spot = none := by
  unfold World.cell? at h
  split at h
  · by_cases g : a.spot.isSome = true
    · rw [if_pos g] at h; cases h
    · simpa using g
  · cases h
theorem addr_add {a : Addr} (h : a.spot = none) (n : Nat) : a.add n = ⟨a.block, a.off + n, none⟩ := by
  unfold Addr.add; split
  · rename_i e; subst e; cases a; simp at h; subst h; rfl
  · rfl

section
variable {H : Type} {enc : TypeId × Value → H} {P : Program} {w : World} {base : Nat} {spare : Nat → Bool} {held : Bool}
theorem quad_elem {e : TypeId} {f0 f1 f2 f3 : Field} {n : Nat} {cs : List Value} {x : DataW H × List MemPlace} (he : P.underlying e = some (.struct #[f0, f1, f2, f3])) (hone : oneCellFields P #[f0, f1, f2, f3] = true) (hC : P.cellsOf e = 4)
    (i0 : P.underlying f0.type = some (.int .i64)) (i1 : P.underlying f1.type = some (.int .i64)) (i2 : P.underlying f2.type = some (.int .i64)) (i3 : P.underlying f3.type = some (.int .i64))
    (h : DataW.trod enc P w base spare held n e cs = some x) : ∃ z0 z1 z2 z3 : Int, cs = [.int .i64 z0, .int .i64 z1, .int .i64 z2, .int .i64 z3] ∧ i64ok z0 ∧ i64ok z1 ∧ i64ok z2 ∧ i64ok z3 := by
  obtain ⟨ys, m, _, _, hlen, hyl, hf⟩ := DataW.trod_struct he h
  rw [hC] at hlen
  match cs, hlen with
  | [c0, c1, c2, c3], _ =>
    match ys, hyl with
    | [y0, y1, y2, y3], _ =>
      obtain ⟨o0, k0⟩ := hone_of hone 0 f0 rfl
      obtain ⟨o1, k1⟩ := hone_of hone 1 f1 rfl
      obtain ⟨o2, k2⟩ := hone_of hone 2 f2 rfl
      obtain ⟨o3, k3⟩ := hone_of hone 3 f3 rfl
      have g0 : DataW.trod enc P w base spare held m f0.type [c0] = some y0 := by simpa [o0, k0] using hf 0 f0 rfl
      have g1 : DataW.trod enc P w base spare held m f1.type [c1] = some y1 := by simpa [o1, k1] using hf 1 f1 rfl
      have g2 : DataW.trod enc P w base spare held m f2.type [c2] = some y2 := by simpa [o2, k2] using hf 2 f2 rfl
      have g3 : DataW.trod enc P w base spare held m f3.type [c3] = some y3 := by simpa [o3, k3] using hf 3 f3 rfl
      obtain ⟨z0, e0, _, w0⟩ := DataW.trod_int i0 g0
      obtain ⟨z1, e1, _, w1⟩ := DataW.trod_int i1 g1
      obtain ⟨z2, e2, _, w2⟩ := DataW.trod_int i2 g2
      obtain ⟨z3, e3, _, w3⟩ := DataW.trod_int i3 g3
      simp at e0 e1 e2 e3
      exact ⟨z0, z1, z2, z3, by rw [e0, e1, e2, e3], bounds_i64 w0, bounds_i64 w1, bounds_i64 w2, bounds_i64 w3⟩

/-- Every slice of such structs reads as a list of quadruples. -/
theorem quads_of {t e : TypeId} {f0 f1 f2 f3 : Field} {fuel : Nat} {cs : List Value} {x : DataW H × List MemPlace} (ht : P.underlying t = some (.slice e)) (he : P.underlying e = some (.struct #[f0, f1, f2, f3])) (hone : oneCellFields P #[f0, f1, f2, f3] = true) (hC : P.cellsOf e = 4)
    (i0 : P.underlying f0.type = some (.int .i64)) (i1 : P.underlying f1.type = some (.int .i64)) (i2 : P.underlying f2.type = some (.int .i64)) (i3 : P.underlying f3.type = some (.int .i64))
    (h : DataW.trod enc P w base spare held fuel t cs = some x) :
    ∃ (A : Option Addr) (c : Nat) (l : List (Int × Int × Int × Int)), cs = [.slice A l.length c] ∧ l.length ≤ c ∧ c ≤ maxLen ∧ (∀ q ∈ l, i64ok q.1 ∧ i64ok q.2.1 ∧ i64ok q.2.2.1 ∧ i64ok q.2.2.2) ∧
      (0 < l.length → ∃ b off, A = some ⟨b, off, none⟩ ∧ b < w.heap.size ∧ ∀ k (hk : k < l.length), w.cell? ⟨b, off + k * 4, none⟩ = some (.int .i64 l[k].1) ∧ w.cell? ⟨b, off + k * 4 + 1, none⟩ = some (.int .i64 l[k].2.1) ∧
        w.cell? ⟨b, off + k * 4 + 2, none⟩ = some (.int .i64 l[k].2.2.1) ∧ w.cell? ⟨b, off + k * 4 + 3, none⟩ = some (.int .i64 l[k].2.2.2)) := by
  rcases open_slice ht h with ⟨rfl, _⟩ | ⟨a, len, cap, m, n, D, Pl, rfl, hb, hl, hm, hmm, hx, hi⟩
  · exact ⟨none, 0, [], rfl, by simp, by simp, by simp, fun h => absurd h (by simp)⟩
  · have hlm : len ≤ m := by rw [hmm]; split <;> omega
    have key : ∀ i, i < len → ∃ q : Int × Int × Int × Int, (i64ok q.1 ∧ i64ok q.2.1 ∧ i64ok q.2.2.1 ∧ i64ok q.2.2.2) ∧ w.cell? (a.add (i * 4 + 0)) = some (.int .i64 q.1) ∧ w.cell? (a.add (i * 4 + 1)) = some (.int .i64 q.2.1) ∧ w.cell? (a.add (i * 4 + 2)) = some (.int .i64 q.2.2.1) ∧ w.cell? (a.add (i * 4 + 3)) = some (.int .i64 q.2.2.2) := by
      intro i hil
      obtain ⟨cs', hc, ht'⟩ := hi i (by omega)
      rw [hC] at hc
      obtain ⟨z0, z1, z2, z3, rfl, b0, b1, b2, b3⟩ := quad_elem he hone hC i0 i1 i2 i3 ht'
      obtain ⟨_, _, hat⟩ := World.cells?_some hc
      have a0 := hat 0 (by omega); have a1 := hat 1 (by omega); have a2 := hat 2 (by omega); have a3 := hat 3 (by omega)
      rw [Go.Deep.add_add] at a0 a1 a2 a3
      exact ⟨(z0, z1, z2, z3), ⟨b0, b1, b2, b3⟩, a0, a1, a2, a3⟩
    let q : Nat → Int × Int × Int × Int := fun i => if hil : i < len then Classical.choose (key i hil) else (0, 0, 0, 0)
    have hq : ∀ i (hil : i < len), q i = Classical.choose (key i hil) := fun i hil => dif_pos hil
    have hlen : ((List.range len).map q).length = len := by simp
    have hget : ∀ k (hk : k < ((List.range len).map q).length), ((List.range len).map q)[k] = q k := fun k hk => by simp
    refine ⟨some a, cap, (List.range len).map q, by rw [hlen], by rw [hlen]; exact hl, hm, fun z hz => ?_, fun h0 => ?_⟩
    · obtain ⟨i, hi', rfl⟩ := List.mem_map.1 hz
      have hil := List.mem_range.1 hi'
      rw [hq i hil]; exact (Classical.choose_spec (key i hil)).1
    · rw [hlen] at h0
      obtain ⟨_, _, s1, _⟩ := key 0 h0
      have hsp := spot_of_cell s1
      have hs : a.spot = none := by
        by_cases h4 : (0 * 4 + 0) = 0
        · rw [show a.add (0 * 4 + 0) = a by simp [Addr.add]] at hsp; exact hsp
        · omega
      have hblk := World.block_lt_of_cell? w _ s1
      rw [addr_add hs] at hblk
      refine ⟨a.block, a.off, by cases a; simp at hs; subst hs; rfl, hblk, fun k hk => ?_⟩
      rw [hlen] at hk
      have sp := (Classical.choose_spec (key k hk)).2
      rw [← hq k hk] at sp
      rw [addr_add hs, addr_add hs, addr_add hs, addr_add hs] at sp
      rw [hget k (by rw [hlen]; exact hk)]
      simpa [Nat.add_assoc] using sp
end
end Go.Proofs.YtbjjgnaojoaoiaaGreat
