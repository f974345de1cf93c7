/- What came in takes no more than the reach. -/
import Derived.Test.YtpgbinijocbfmaaP9
import Derived.SizedLaws
namespace Go.Proofs.Ytpgbinijocbfmaa
open Go.ChangeShapes Go.WideShapes Go.Deep Go.RowKit Go
set_option linter.unusedVariables false
set_option linter.unusedSimpArgs false
section
variable {H : Type} {enc : TypeId × Value → H} {w : World} {base : Nat} {spare : Nat → Bool} {held : Bool}
theorem slice_weight {t e : TypeId} {fuel n c : Nat} {A : Option Addr} {x : DataW H × List MemPlace} (ht : Try.prog.underlying t = some (.slice e)) (h : DataW.trod enc Try.prog w base spare held fuel t [.slice A n c] = some x)
    (hw : ∀ k ∈ x.1.weights Try.prog t, k ≤ reachBytes) : n * Try.prog.bytesOf e ≤ 140737488351232 := by
  rcases open_slice ht h with ⟨e, _⟩ | ⟨a, len, cap, m, n', D, Pl, e, hb, hl, hm, hmm, rfl, hi⟩
  · injection e with e _; injection e with _ e _; subst e; omega
  · injection e with e _; injection e with _ e _; subst e
    have := hw _ (by simp only [DataW.weights, ht]; exact List.mem_cons_self)
    simp only [List.length_map, List.length_range, reachBytes] at this
    refine Nat.le_trans ?_ this
    exact Nat.mul_le_mul_right _ (by omega)
theorem field_weight {t : TypeId} {fs : Array Field} {fuel : Nat} {cs : List Value} {x : DataW H × List MemPlace} (ht : Try.prog.underlying t = some (.struct fs)) (h : DataW.trod enc Try.prog w base spare held fuel t cs = some x)
    (hw : ∀ k ∈ x.1.weights Try.prog t, k ≤ reachBytes) :
    ∃ n, ∀ (j : Nat) (f : Field), fs[j]? = some f → ∃ y, DataW.trod enc Try.prog w base spare held n f.type ((cs.drop f.offset).take (Try.prog.cellsOf f.type)) = some y ∧ ∀ k ∈ y.1.weights Try.prog f.type, k ≤ reachBytes := by
  obtain ⟨xs, n, _, hx, hl, hlen, hf⟩ := DataW.trod_struct ht h
  refine ⟨n, fun j f hj => ?_⟩
  have hj' : j < fs.size := (Array.getElem?_eq_some_iff.1 hj).1
  refine ⟨xs[j]'(by omega), by rw [hf j f hj]; exact List.getElem?_eq_getElem _, fun k hk => ?_⟩
  subst hx
  refine hw k ?_
  simp only [DataW.weights, ht]
  refine DataW.weights_mem_each (j := j) (t := f.type) (d := (xs[j]'(by omega)).1) ?_ ?_ k hk
  · simp [hj]
  · rw [List.getElem?_map, List.getElem?_eq_getElem (by omega)]; rfl
/-- An item's two slices. -/
theorem item_weight {fuel : Nat} {A A' : Option Addr} {n c n' c' : Nat} {q d r : Value} {x : DataW H × List MemPlace} (h : DataW.trod enc Try.prog w base spare held fuel 37 [.slice A n c, q, d, .slice A' n' c', r] = some x)
    (hw : ∀ k ∈ x.1.weights Try.prog 37, k ≤ reachBytes) : n ≤ 140737488351232 ∧ n' ≤ 140737488351232 := by
  obtain ⟨m, hf⟩ := field_weight Try.underlying37 h hw
  obtain ⟨y0, g0, k0⟩ := hf 0 _ rfl
  replace g0 : DataW.trod enc Try.prog w base spare held m 35 (([Value.slice A n c, q, d, .slice A' n' c', r].drop 0).take (Try.prog.cellsOf 35)) = some y0 := g0
  have h1 : Try.prog.cellsOf 35 = 4 := by kernel_rfl
  simp only [h1, List.drop_zero, List.take_succ_cons, List.take_zero] at g0
  obtain ⟨m2, hf2⟩ := field_weight Try.underlying35 g0 k0
  obtain ⟨z0, e0, l0⟩ := hf2 0 _ rfl
  obtain ⟨z3, e3, l3⟩ := hf2 3 _ rfl
  replace e0 : DataW.trod enc Try.prog w base spare held m2 33 (([Value.slice A n c, q, d, .slice A' n' c'].drop 0).take (Try.prog.cellsOf 33)) = some z0 := e0
  replace e3 : DataW.trod enc Try.prog w base spare held m2 33 (([Value.slice A n c, q, d, .slice A' n' c'].drop 3).take (Try.prog.cellsOf 33)) = some z3 := e3
  have h2 : Try.prog.cellsOf 33 = 1 := by kernel_rfl
  simp only [h2, List.drop_succ_cons, List.drop_zero, List.take_succ_cons, List.take_zero] at e0 e3
  have b1 : Try.prog.bytesOf 5 = 1 := by kernel_rfl
  have r0 := slice_weight Try.underlying33 e0 l0
  have r3 := slice_weight Try.underlying33 e3 l3
  rw [b1] at r0 r3
  exact ⟨by omega, by omega⟩
theorem item_form {fuel : Nat} {cs : List Value} {x : DataW H × List MemPlace} (h : DataW.trod enc Try.prog w base spare held fuel 37 cs = some x) :
    ∃ (Ak : Option Addr) (ck : Nat) (Av : Option Addr) (cv : Nat) (r : Rc) (draw : Int), cs = [.slice Ak r.key.length ck, .int .i64 r.seq, .bool r.del, .slice Av r.val.length cv, .int .i64 draw] ∧ It.ok w ⟨.slice Ak r.key.length ck, .slice Av r.val.length cv, r, draw⟩ := by
  obtain ⟨⟨kv, vv, r, dr⟩, e, hk⟩ := item_of h
  obtain ⟨Ak, ck, e1, _⟩ := hk.1
  obtain ⟨Av, cv, e2, _⟩ := hk.2.1
  simp only at e1 e2 e
  subst e1 e2
  exact ⟨Ak, ck, Av, cv, r, dr, e, hk⟩
theorem bytes_item : Try.prog.bytesOf 37 = 72 := by kernel_rfl
end
end Go.Proofs.Ytpgbinijocbfmaa
