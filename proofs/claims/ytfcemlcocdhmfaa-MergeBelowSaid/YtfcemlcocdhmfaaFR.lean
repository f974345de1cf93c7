/- Rows of records, and rows of such rows, that came in. -/
import Derived.Test.YtfcemlcocdhmfaaHO
import Derived.WalkKit
import Derived.Deep.Slices
import Derived.Deep.Fields
import Derived.ChangeSame
import Derived.OpenShut
namespace Go.Proofs.Ytfcemlcocdhmfaa
open Go.ChangeShapes Go.WideShapes Go.Deep Go.RowKit Go
set_option linter.unusedVariables false
set_option linter.unusedSimpArgs false

theorem spot_of_cell' {w : World} {a : Addr} {v : Value} (h : w.cell? a = some v) : a.spot = none := by
  unfold World.cell? at h
  split at h
  · by_cases g : a.spot.isSome = true
    · rw [if_pos g] at h; cases h
    · simpa using g
  · cases h
theorem addr_add' {a : Addr} (h : a.spot = none) (n : Nat) : a.add n = ⟨a.block, a.off + n, none⟩ := by
  unfold Addr.add; split
  · rename_i e; subst e; cases a; simp at h; subst h; rfl
  · rfl
section
variable {H : Type} {enc : TypeId × Value → H} {w : World} {base : Nat} {spare : Nat → Bool} {held : Bool}
theorem bytes_of {fuel : Nat} {cs : List Value} {x : DataW H × List MemPlace} (h : DataW.trod enc Try.prog w base spare held fuel 38 cs = some x) :
    ∃ v l, cs = [v] ∧ Bs w w.heap.size v l ∧ l.length ≤ maxLen := by
  rcases open_ints Try.underlying38 Try.underlying5 (by kernel_rfl) h with ⟨rfl, _⟩ | ⟨a, len, cap, zs, rfl, hb, hl, hm, hz, hx, hcell, hwf⟩
  · exact ⟨.slice none 0 0, [], rfl, Bs.nil, by simp⟩
  · have hzl : len ≤ zs.length := by rw [hz]; split <;> omega
    have hlen : ((zs.take len).map fun n => UInt8.ofNat n.toNat).length = len := by simp; omega
    refine ⟨_, (zs.take len).map fun n => UInt8.ofNat n.toNat, rfl, ⟨some a, cap, by rw [hlen], ?_⟩, by rw [hlen]; omega⟩
    refine ⟨by simp [u8s_len], fun h0 => ?_⟩
    rw [hlen] at h0
    have c0 := hcell 0 (by omega)
    have hs : a.spot = none := by
      have := spot_of_cell' c0
      simpa [Addr.add] using this
    have hblk := World.block_lt_of_cell? w _ c0
    rw [addr_add' hs] at hblk
    refine ⟨a.block, a.off, by cases a; simp at hs; subst hs; rfl, hblk, fun j hj => ?_⟩
    rw [hlen] at hj
    have cj := hcell j (by omega)
    rw [addr_add' hs] at cj
    rw [cj]
    have hr2 : 0 ≤ zs.getD j 0 ∧ zs.getD j 0 < 256 := by have := range_u8 hwf j; simp [List.getD] at this ⊢; omega
    have hj2 : j < ((zs.take len).map fun n => UInt8.ofNat n.toNat).length := by rw [hlen]; omega
    rw [u8s_at _ _ hj2]
    have e : zs.getD j 0 = zs[j]'(by omega) := by simp [List.getD, List.getElem?_eq_getElem (show j < zs.length by omega)]
    simp only [List.getElem_map, List.getElem_take]
    rw [e] at hr2 ⊢
    congr 2
    simp only [UInt8.toNat_ofNat']
    omega
theorem trod_cells {t e : TypeId} {fs : Array Field} {fuel : Nat} {cs : List Value} {x : DataW H × List MemPlace} (ht : Try.prog.underlying t = some (.struct fs)) (h : DataW.trod enc Try.prog w base spare held fuel t cs = some x) :
    ∃ n, cs.length = Try.prog.cellsOf t ∧ ∀ (j : Nat) (f : Field), fs[j]? = some f → ∃ y, DataW.trod enc Try.prog w base spare held n f.type ((cs.drop f.offset).take (Try.prog.cellsOf f.type)) = some y := by
  obtain ⟨xs, n, _, hx, hl, hlen, hf⟩ := DataW.trod_struct ht h
  refine ⟨n, hl, fun j f hj => ?_⟩
  have hj' : j < fs.size := (Array.getElem?_eq_some_iff.1 hj).1
  exact ⟨xs[j]'(by omega), by rw [hf j f hj]; exact List.getElem?_eq_getElem _⟩
/-- A record that came in: its four cells. -/
theorem rec_of {fuel : Nat} {cs : List Value} {x : DataW H × List MemPlace} (h : DataW.trod enc Try.prog w base spare held fuel 40 cs = some x) :
    ∃ (kv vv : Value) (r : Rc), cs = [kv, .int .i64 r.seq, .bool r.del, vv] ∧ Bs w w.heap.size kv r.key ∧ Bs w w.heap.size vv r.val ∧ r.key.length ≤ maxLen ∧ r.val.length ≤ maxLen ∧ -9223372036854775808 ≤ r.seq ∧ r.seq ≤ 9223372036854775807 := by
  obtain ⟨n, hl, hf⟩ := trod_cells (e := 0) Try.underlying40 h
  have hc : Try.prog.cellsOf 40 = 4 := by kernel_rfl
  rw [hc] at hl
  match cs, hl with
  | [c0, c1, c2, c3], _ =>
    obtain ⟨y0, g0⟩ := hf 0 _ rfl
    obtain ⟨y1, g1⟩ := hf 1 _ rfl
    obtain ⟨y2, g2⟩ := hf 2 _ rfl
    obtain ⟨y3, g3⟩ := hf 3 _ rfl
    replace g0 : DataW.trod enc Try.prog w base spare held n 38 (([c0, c1, c2, c3].drop 0).take (Try.prog.cellsOf 38)) = some y0 := g0
    replace g1 : DataW.trod enc Try.prog w base spare held n 3 (([c0, c1, c2, c3].drop 1).take (Try.prog.cellsOf 3)) = some y1 := g1
    replace g2 : DataW.trod enc Try.prog w base spare held n 4 (([c0, c1, c2, c3].drop 2).take (Try.prog.cellsOf 4)) = some y2 := g2
    replace g3 : DataW.trod enc Try.prog w base spare held n 38 (([c0, c1, c2, c3].drop 3).take (Try.prog.cellsOf 38)) = some y3 := g3
    have h1 : Try.prog.cellsOf 38 = 1 := by kernel_rfl
    have h2 : Try.prog.cellsOf 3 = 1 := by kernel_rfl
    have h3 : Try.prog.cellsOf 4 = 1 := by kernel_rfl
    simp only [h1, h2, h3, List.drop_succ_cons, List.drop_zero, List.take_succ_cons, List.take_zero] at g0 g1 g2 g3
    obtain ⟨kv, k, ek, hk, hkl⟩ := bytes_of g0
    obtain ⟨z, ez, _, hz⟩ := DataW.trod_int Try.underlying3 g1
    obtain ⟨d, ed, _⟩ := DataW.trod_bool Try.underlying4 g2
    obtain ⟨vv, v, ev, hv, hvl⟩ := bytes_of g3
    simp at ek ez ed ev
    subst ek ez ed ev
    have := bounds_i64 hz
    exact ⟨c0, c3, ⟨k, z, d, v⟩, rfl, hk, hv, hkl, hvl, by show _ ≤ z; omega, by show z ≤ _; omega⟩
/-- A row of records that came in. -/
theorem recs_of {fuel : Nat} {cs : List Value} {x : DataW H × List MemPlace} (h : DataW.trod enc Try.prog w base spare held fuel 25 cs = some x) :
    ∃ (A : Option Addr) (c : Nat) (qs : List El), cs = [.slice A qs.length c] ∧ RowB w (.slice A qs.length c) qs ∧ qs.length ≤ maxLen := by
  rcases open_slice Try.underlying25 h with ⟨rfl, _⟩ | ⟨a, len, cap, m, n, D, Pl, rfl, hb, hl, hm, hmm, hx, hi⟩
  · exact ⟨none, 0, [], rfl, ⟨none, 0, rfl, Nat.le_refl _, Rd.nil, by simp⟩, by simp⟩
  · have hlm : len ≤ m := by rw [hmm]; split <;> omega
    have hC : Try.prog.cellsOf 40 = 4 := by kernel_rfl
    rw [hC] at hi
    have key : ∀ i, i < len → ∃ q : El, (Bs w w.heap.size q.kv q.r.key ∧ Bs w w.heap.size q.vv q.r.val) ∧ w.cell? (a.add (i * 4 + 0)) = some q.kv ∧ w.cell? (a.add (i * 4 + 1)) = some (.int .i64 q.r.seq) ∧ w.cell? (a.add (i * 4 + 2)) = some (.bool q.r.del) ∧ w.cell? (a.add (i * 4 + 3)) = some q.vv := by
      intro i hil
      obtain ⟨cs', hc, ht'⟩ := hi i (by omega)
      obtain ⟨kv, vv, r, rfl, hk, hv, _⟩ := rec_of ht'
      obtain ⟨_, _, hat⟩ := World.cells?_some hc
      have a0 := hat 0 (by omega); have a1 := hat 1 (by omega); have a2 := hat 2 (by omega); have a3 := hat 3 (by omega)
      rw [Go.Deep.add_add] at a0 a1 a2 a3
      exact ⟨⟨kv, vv, r⟩, ⟨hk, hv⟩, a0, a1, a2, a3⟩
    let q : Nat → El := fun i => if hil : i < len then Classical.choose (key i hil) else ⟨.slice none 0 0, .slice none 0 0, ⟨[], 0, false, []⟩⟩
    have hq : ∀ i (hil : i < len), q i = Classical.choose (key i hil) := fun i hil => dif_pos hil
    have hlen : ((List.range len).map q).length = len := by simp
    have hget : ∀ k (hk : k < ((List.range len).map q).length), ((List.range len).map q)[k] = q k := fun k hk => by simp
    refine ⟨some a, cap, (List.range len).map q, by rw [hlen], ⟨some a, cap, by rw [hlen], by rw [hlen]; exact hl, ⟨by rw [elCells_len], fun h0 => ?_⟩, fun z hz => ?_⟩, by rw [hlen]; exact Nat.le_trans hl hm⟩
    · rw [hlen] at h0
      obtain ⟨_, _, s1, _⟩ := key 0 h0
      have hs : a.spot = none := by
        have := spot_of_cell' s1
        simpa [Addr.add] using this
      have hblk := World.block_lt_of_cell? w _ s1
      rw [addr_add' hs] at hblk
      refine ⟨a.block, a.off, by cases a; simp at hs; subst hs; rfl, hblk, fun j hj => ?_⟩
      rw [hlen] at hj
      have hk : j / 4 < len := by omega
      have sp := (Classical.choose_spec (key (j / 4) hk)).2
      rw [← hq _ hk, addr_add' hs, addr_add' hs, addr_add' hs, addr_add' hs] at sp
      have hk' : j / 4 < ((List.range len).map q).length := by rw [hlen]; exact hk
      have hb2 := elCells_at _ (j / 4) hk'
      rw [hget _ hk'] at hb2
      have hmod : j % 4 = 0 ∨ j % 4 = 1 ∨ j % 4 = 2 ∨ j % 4 = 3 := by omega
      rcases hmod with h | h | h | h
      · have e : j = j / 4 * 4 := by omega
        have e1 : j / 4 * 4 + 0 = j := by omega
        rw [e1] at sp; rw [← e] at hb2; rw [hb2.1]; exact sp.1
      · have e : j = j / 4 * 4 + 1 := by omega
        rw [← e] at sp hb2; rw [hb2.2.1]; exact sp.2.1
      · have e : j = j / 4 * 4 + 2 := by omega
        rw [← e] at sp hb2; rw [hb2.2.2.1]; exact sp.2.2.1
      · have e : j = j / 4 * 4 + 3 := by omega
        rw [← e] at sp hb2; rw [hb2.2.2.2]; exact sp.2.2.2
    · obtain ⟨i, hi', rfl⟩ := List.mem_map.1 hz
      have hil := List.mem_range.1 hi'
      rw [hq i hil]; exact (Classical.choose_spec (key i hil)).1
/-- A row of rows of records that came in. -/
theorem lsts_of {fuel : Nat} {cs : List Value} {x : DataW H × List MemPlace} (h : DataW.trod enc Try.prog w base spare held fuel 22 cs = some x) :
    ∃ (A : Option Addr) (c : Nat) (ls : List Lst), cs = [.slice A ls.length c] ∧ Rd w w.heap.size 1 A ls.length (ls.map (·.1)) ∧ (∀ x ∈ ls, RowB w x.1 x.2) ∧ ls.length ≤ maxLen := by
  rcases open_slice Try.underlying22 h with ⟨rfl, _⟩ | ⟨a, len, cap, m, n, D, Pl, rfl, hb, hl, hm, hmm, hx, hi⟩
  · exact ⟨none, 0, [], rfl, Rd.nil, by simp, by simp⟩
  · have hlm : len ≤ m := by rw [hmm]; split <;> omega
    have hC : Try.prog.cellsOf 25 = 1 := by kernel_rfl
    rw [hC] at hi
    have key : ∀ i, i < len → ∃ q : Lst, RowB w q.1 q.2 ∧ w.cell? (a.add (i * 1 + 0)) = some q.1 := by
      intro i hil
      obtain ⟨cs', hc, ht'⟩ := hi i (by omega)
      obtain ⟨A, c, qs, rfl, hr, _⟩ := recs_of ht'
      obtain ⟨_, _, hat⟩ := World.cells?_some hc
      have a0 := hat 0 (by omega)
      rw [Go.Deep.add_add] at a0
      exact ⟨⟨.slice A qs.length c, qs⟩, hr, a0⟩
    let q : Nat → Lst := fun i => if hil : i < len then Classical.choose (key i hil) else ⟨.slice none 0 0, []⟩
    have hq : ∀ i (hil : i < len), q i = Classical.choose (key i hil) := fun i hil => dif_pos hil
    have hlen : ((List.range len).map q).length = len := by simp
    have hget : ∀ k (hk : k < ((List.range len).map q).length), ((List.range len).map q)[k] = q k := fun k hk => by simp
    refine ⟨some a, cap, (List.range len).map q, by rw [hlen], ⟨by simp, fun h0 => ?_⟩, fun z hz => ?_, by rw [hlen]; exact Nat.le_trans hl hm⟩
    · rw [hlen] at h0
      obtain ⟨_, _, s1⟩ := key 0 h0
      have hs : a.spot = none := by
        have := spot_of_cell' s1
        simpa [Addr.add] using this
      have hblk := World.block_lt_of_cell? w _ s1
      rw [addr_add' hs] at hblk
      refine ⟨a.block, a.off, by cases a; simp at hs; subst hs; rfl, hblk, fun j hj => ?_⟩
      rw [hlen] at hj
      have hk : j < len := by omega
      have sp := (Classical.choose_spec (key j hk)).2
      rw [← hq _ hk, addr_add' hs] at sp
      have e1 : a.off + (j * 1 + 0) = a.off + j := by omega
      rw [e1] at sp
      rw [sp]
      simp [hk]
    · obtain ⟨i, hi', rfl⟩ := List.mem_map.1 hz
      have hil := List.mem_range.1 hi'
      rw [hq i hil]; exact (Classical.choose_spec (key i hil)).1
end
end Go.Proofs.Ytfcemlcocdhmfaa
