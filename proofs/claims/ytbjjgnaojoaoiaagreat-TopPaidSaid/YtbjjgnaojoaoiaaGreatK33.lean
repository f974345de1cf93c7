/- A slice of returns that came in. -/
import Derived.Test.YtbjjgnaojoaoiaaGreatK31
import Derived.Test.YtbjjgnaojoaoiaaGreatK32
import Derived.Test.YtbjjgnaojoaoiaaGreatK1
namespace Go.Proofs.YtbjjgnaojoaoiaaGreat
open Go.ChangeShapes Go.WideShapes Go.Deep Go.RowKit Go
set_option linter.unusedVariables false

section
variable {H : Type} {enc : TypeId × Value → H} {w : World} {base : Nat} {spare : Nat → Bool} {held : Bool}
set_option maxRecDepth 100000 in
theorem rets_of {fuel : Nat} {cs : List Value} {x : DataW H × List MemPlace} (h : DataW.trod enc Tryz.prog w base spare held fuel 25 cs = some x) :
    ∃ (A : Option Addr) (c : Nat) (l : List Ret), cs = [.slice A l.length c] ∧ l.length ≤ maxLen ∧ Rd w w.heap.size 5 A l.length (retCs l) := by
  have hC : Tryz.prog.cellsOf 37 = 5 := by kernel_rfl
  rcases open_slice Tryz.underlying25 h with ⟨rfl, _⟩ | ⟨a, len, cap, m, n, D, Pl, rfl, hb, hl, hm, hmm, hx, hi⟩
  · exact ⟨none, 0, [], rfl, by simp, ⟨rfl, fun h => absurd h (by simp)⟩⟩
  · have hlm : len ≤ m := by rw [hmm]; split <;> omega
    have key : ∀ i, i < len → ∃ r : Ret, w.cell? (a.add (i * 5 + 0)) = some (.int .i64 r.per) ∧ w.cell? (a.add (i * 5 + 1)) = some (.int .i64 r.due) ∧ w.cell? (a.add (i * 5 + 2)) = some (.int .i64 r.filed) ∧ w.cell? (a.add (i * 5 + 3)) = some (.int .i64 r.inc) ∧ w.cell? (a.add (i * 5 + 4)) = some (.int .i64 r.wh) := by
      intro i hil
      obtain ⟨cs', hc, ht'⟩ := hi i (by omega)
      rw [hC] at hc
      obtain ⟨r, rfl⟩ := ret_form ht'
      obtain ⟨_, _, hat⟩ := World.cells?_some hc
      have a0 := hat 0 (by omega); have a1 := hat 1 (by omega); have a2 := hat 2 (by omega); have a3 := hat 3 (by omega); have a4 := hat 4 (by omega)
      rw [Go.Deep.add_add] at a0 a1 a2 a3 a4
      exact ⟨r, a0, a1, a2, a3, a4⟩
    let q : Nat → Ret := fun i => if hil : i < len then Classical.choose (key i hil) else ⟨0, 0, 0, 0, 0⟩
    have hq : ∀ i (hil : i < len), q i = Classical.choose (key i hil) := fun i hil => dif_pos hil
    have hlen : ((List.range len).map q).length = len := by simp
    have hget : ∀ k (hk : k < ((List.range len).map q).length), ((List.range len).map q)[k] = q k := fun k hk => by simp
    refine ⟨some a, cap, (List.range len).map q, by rw [hlen], by rw [hlen]; omega, ⟨flat_len (c := retC) retC_len _, fun h0 => ?_⟩⟩
    rw [hlen] at h0
    obtain ⟨_, s1, _⟩ := key 0 (by omega)
    have hsp := spot_of_cell s1
    have hs : a.spot = none := by
      rw [show a.add (0 * 5 + 0) = a by simp [Addr.add]] at hsp; exact hsp
    have hblk := World.block_lt_of_cell? w _ s1
    rw [addr_add hs] at hblk
    refine ⟨a.block, a.off, by cases a; simp at hs; subst hs; rfl, hblk, fun j hj => ?_⟩
    rw [hlen] at hj
    have hk : j / 5 < len := by omega
    have sp := Classical.choose_spec (key (j / 5) hk)
    rw [← hq (j / 5) hk] at sp
    simp only [addr_add hs] at sp
    have hkl : j / 5 < ((List.range len).map q).length := by rw [hlen]; exact hk
    have e : (retCs ((List.range len).map q))[j / 5 * 5 + j % 5]? = (retC ((List.range len).map q)[j / 5])[j % 5]? := flat_at (c := retC) retC_len hkl (by omega)
    rw [hget _ hkl] at e
    have ej : j / 5 * 5 + j % 5 = j := by omega
    rw [ej] at e
    unfold retCs at e
    show _ = (List.flatMap retC _)[j]?
    rw [e]
    have hm5 : j % 5 < 5 := by omega
    rcases (show j % 5 = 0 ∨ j % 5 = 1 ∨ j % 5 = 2 ∨ j % 5 = 3 ∨ j % 5 = 4 by omega) with h5 | h5 | h5 | h5 | h5
    · have ej' : j / 5 * 5 + 0 = j := by omega
      rw [h5]; have := sp.1; rw [ej'] at this; exact this
    · have ej' : j / 5 * 5 + 1 = j := by omega
      rw [h5]; have := sp.2.1; rw [ej'] at this; exact this
    · have ej' : j / 5 * 5 + 2 = j := by omega
      rw [h5]; have := sp.2.2.1; rw [ej'] at this; exact this
    · have ej' : j / 5 * 5 + 3 = j := by omega
      rw [h5]; have := sp.2.2.2.1; rw [ej'] at this; exact this
    · have ej' : j / 5 * 5 + 4 = j := by omega
      rw [h5]; have := sp.2.2.2.2; rw [ej'] at this; exact this
end
end Go.Proofs.YtbjjgnaojoaoiaaGreat
