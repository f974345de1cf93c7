/- The walk of AssessAdds and what comes in, together. -/
import Derived.Test.YtilcgpaefkapaaaAJ
import Derived.Test.YtilcgpaefkapaaaFB
namespace Go.Proofs.Ytilcgpaefkapaaa
open Go.ChangeShapes Go.WideShapes Go.Deep Go.RowKit Go
set_option linter.unusedVariables false
set_option linter.unusedSimpArgs false

theorem okWide_arr {P : Program} {w : World} {r : Reach} {base t n e : Nat} {v : Value} (ht : P.underlying t = some (.array n e)) (h : Value.okWide P w r base t v) : ∃ cs, v = .agg cs ∧ cs.size = P.cellsOf t := by
  simp only [Value.okWide, ht] at h
  obtain ⟨cs, h1, h2, _⟩ := h
  exact ⟨cs, h1, h2⟩
theorem arr4_form {H : Type} {enc : TypeId × Value → H} {w : World} {base : Nat} {spare : Nat → Bool} {held : Bool} {fuel : Nat} {cs : List Value} {x : DataW H × List MemPlace} (h : DataW.trod enc Try.prog w base spare held fuel 42 cs = some x) :
    ∃ x0 x1 x2 x3 : Int, cs = [.int .i64 x0, .int .i64 x1, .int .i64 x2, .int .i64 x3] := by
  obtain ⟨ys, m, _, _, hlen, hyl, hf⟩ := DataW.trod_array Try.underlying42 h
  have h4 : Try.prog.cellsOf 42 = 4 := by kernel_rfl
  have hi1 : Try.prog.cellsOf 2 = 1 := by kernel_rfl
  rw [h4] at hlen
  match cs, hlen with
  | [c0, c1, c2, c3], _ =>
    match ys, hyl with
    | [y0, y1, y2, y3], _ =>
      have g0 : DataW.trod enc Try.prog w base spare held m 2 (([c0, c1, c2, c3].drop (0 * Try.prog.cellsOf 2)).take (Try.prog.cellsOf 2)) = some y0 := hf 0 (by omega)
      have g1 : DataW.trod enc Try.prog w base spare held m 2 (([c0, c1, c2, c3].drop (1 * Try.prog.cellsOf 2)).take (Try.prog.cellsOf 2)) = some y1 := hf 1 (by omega)
      have g2 : DataW.trod enc Try.prog w base spare held m 2 (([c0, c1, c2, c3].drop (2 * Try.prog.cellsOf 2)).take (Try.prog.cellsOf 2)) = some y2 := hf 2 (by omega)
      have g3 : DataW.trod enc Try.prog w base spare held m 2 (([c0, c1, c2, c3].drop (3 * Try.prog.cellsOf 2)).take (Try.prog.cellsOf 2)) = some y3 := hf 3 (by omega)
      rw [hi1] at g0 g1 g2 g3
      simp only [Nat.zero_mul, Nat.mul_one, List.drop_succ_cons, List.drop_zero, List.take_succ_cons, List.take_zero] at g0 g1 g2 g3
      obtain ⟨z0, e0, _, _⟩ := DataW.trod_int Try.underlying2 g0
      obtain ⟨z1, e1, _, _⟩ := DataW.trod_int Try.underlying2 g1
      obtain ⟨z2, e2, _, _⟩ := DataW.trod_int Try.underlying2 g2
      obtain ⟨z3, e3, _, _⟩ := DataW.trod_int Try.underlying2 g3
      simp only [List.cons.injEq, and_true] at e0 e1 e2 e3
      subst e0 e1 e2 e3
      exact ⟨z0, z1, z2, z3, rfl⟩
end Go.Proofs.Ytilcgpaefkapaaa
