/- A slice of records that came in. -/
import Derived.Test.YtpgbinijocbfmaaP9
import Derived.Test.YtpgbinijocbfmaaP11
namespace Go.Proofs.Ytpgbinijocbfmaa
open Go.ChangeShapes Go.WideShapes Go.Deep Go.RowKit Go
set_option linter.unusedVariables false
set_option linter.unusedSimpArgs false
theorem RecsAt.up {w w' : World} {A : Option Addr} {qs : List El} (h : RecsAt w A qs) (hb : Below w.heap.size w w') : RecsAt w' A qs :=
  ⟨(h.1.below hb).wider hb.size, fun q hq => ⟨(h.2 q hq).1.up hb, (h.2 q hq).2.1.up hb, (h.2 q hq).2.2⟩⟩
theorem recAt {w : World} {A : Option Addr} {qs : List El} (h : RecsAt w A qs) {k : Nat} (hk : k < qs.length) : ∃ b off, A = some ⟨b, off, none⟩ ∧ b < w.heap.size ∧ w.cell? ⟨b, off + k * 4, none⟩ = some qs[k].kv ∧ w.cell? ⟨b, off + k * 4 + 1, none⟩ = some (.int .i64 qs[k].r.seq) ∧
    w.cell? ⟨b, off + k * 4 + 2, none⟩ = some (.bool qs[k].r.del) ∧ w.cell? ⟨b, off + k * 4 + 3, none⟩ = some qs[k].vv := by
  obtain ⟨b, off, e, hb, hc⟩ := h.1.2 (by omega)
  exact ⟨b, off, e, hb, row_at hc hk⟩
theorem rec_at {w w' : World} {b off : Nat} {qs : List El} (h : RecsAt w (some ⟨b, off, none⟩) qs) (hb : Below w.heap.size w w') {k : Nat} (hk : k < qs.length) :
    w'.cell? ⟨b, off + k * 4, none⟩ = some qs[k].kv ∧ w'.cell? ⟨b, off + k * 4 + 1, none⟩ = some (.int .i64 qs[k].r.seq) ∧ w'.cell? ⟨b, off + k * 4 + 2, none⟩ = some (.bool qs[k].r.del) ∧ w'.cell? ⟨b, off + k * 4 + 3, none⟩ = some qs[k].vv := by
  obtain ⟨b', off', e, _, hc⟩ := recAt (h.up hb) hk
  injection e with e
  injection e with e1 e2
  subst e1 e2
  exact hc
section
variable {H : Type} {enc : TypeId × Value → H} {w : World} {base : Nat} {spare : Nat → Bool} {held : Bool}
theorem recs_of {fuel : Nat} {cs : List Value} {x : DataW H × List MemPlace} (h : DataW.trod enc Try.prog w base spare held fuel 28 cs = some x) :
    ∃ (A : Option Addr) (c : Nat) (qs : List El), cs = [.slice A qs.length c] ∧ RecsAt w A qs ∧ qs.length ≤ c ∧ c ≤ maxLen := by
  rcases open_slice Try.underlying28 h with ⟨rfl, _⟩ | ⟨a, len, cap, m, n, D, Pl, rfl, hb, hl, hm, hmm, hx, hi⟩
  · exact ⟨none, 0, [], rfl, ⟨Rd.nil, by simp⟩, by simp, by simp⟩
  · have hlm : len ≤ m := by rw [hmm]; split <;> omega
    have hC : Try.prog.cellsOf 35 = 4 := by kernel_rfl
    rw [hC] at hi
    have key : ∀ i, i < len → ∃ q : El, (Bs w w.heap.size q.kv q.r.key ∧ Bs w w.heap.size q.vv q.r.val ∧ -9223372036854775808 ≤ q.r.seq ∧ q.r.seq ≤ 9223372036854775807) ∧ w.cell? (a.add (i * 4 + 0)) = some q.kv ∧ w.cell? (a.add (i * 4 + 1)) = some (.int .i64 q.r.seq) ∧ w.cell? (a.add (i * 4 + 2)) = some (.bool q.r.del) ∧ w.cell? (a.add (i * 4 + 3)) = some q.vv := by
      intro i hil
      obtain ⟨cs', hc, ht'⟩ := hi i (by omega)
      obtain ⟨kv, vv, r, rfl, hk, hv, _, _, hs1, hs2⟩ := rec_of ht'
      obtain ⟨_, _, hat⟩ := World.cells?_some hc
      have a0 := hat 0 (by omega); have a1 := hat 1 (by omega); have a2 := hat 2 (by omega); have a3 := hat 3 (by omega)
      rw [Go.Deep.add_add] at a0 a1 a2 a3
      exact ⟨⟨kv, vv, r⟩, ⟨hk, hv, hs1, hs2⟩, a0, a1, a2, a3⟩
    let q : Nat → El := fun i => if hil : i < len then Classical.choose (key i hil) else ⟨.slice none 0 0, .slice none 0 0, zeroRc⟩
    have hq : ∀ i (hil : i < len), q i = Classical.choose (key i hil) := fun i hil => dif_pos hil
    have hlen : ((List.range len).map q).length = len := by simp
    have hget : ∀ k (hk : k < ((List.range len).map q).length), ((List.range len).map q)[k] = q k := fun k hk => by simp
    refine ⟨some a, cap, (List.range len).map q, by rw [hlen], ⟨⟨elCells_len _, fun h0 => ?_⟩, fun z hz => ?_⟩, by rw [hlen]; exact hl, hm⟩
    · rw [hlen] at h0
      obtain ⟨_, _, s1, _⟩ := key 0 h0
      have hs : a.spot = none := by
        have := spot_of_cell' s1
        simpa [Addr.add] using this
      have hblk := World.block_lt_of_cell? w _ s1
      rw [addr_add' hs] at hblk
      refine ⟨a.block, a.off, by cases a; simp at hs; subst hs; rfl, hblk, fun j hj => ?_⟩
      rw [hlen] at hj
      have hk : j / 4 < len := by omega
      have sp := (Classical.choose_spec (key (j / 4) hk)).2
      rw [← hq _ hk] at sp
      rw [addr_add' hs, addr_add' hs, addr_add' hs, addr_add' hs] at sp
      have hat := elCells_at ((List.range len).map q) (j / 4) (by rw [hlen]; exact hk)
      rw [hget _ (by rw [hlen]; exact hk)] at hat
      have hj4 : j = j / 4 * 4 + j % 4 := by omega
      have hm4 : j % 4 = 0 ∨ j % 4 = 1 ∨ j % 4 = 2 ∨ j % 4 = 3 := by omega
      rcases hm4 with e | e | e | e <;> rw [hj4, e]
      · rw [Nat.add_zero, hat.1]; simpa using sp.1
      · rw [hat.2.1, ← Nat.add_assoc]; simpa [Nat.add_assoc] using sp.2.1
      · rw [hat.2.2.1, ← Nat.add_assoc]; simpa [Nat.add_assoc] using sp.2.2.1
      · rw [hat.2.2.2, ← Nat.add_assoc]; simpa [Nat.add_assoc] using sp.2.2.2
    · obtain ⟨i, hi', rfl⟩ := List.mem_map.1 hz
      have hil := List.mem_range.1 hi'
      rw [hq i hil]; exact (Classical.choose_spec (key i hil)).1
end
end Go.Proofs.Ytpgbinijocbfmaa
