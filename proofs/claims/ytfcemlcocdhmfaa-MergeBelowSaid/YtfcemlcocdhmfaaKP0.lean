/- A call of a function as a step of a region that draws. -/
import Derived.Test.YtfcemlcocdhmfaaHL
namespace Go.Proofs.Ytfcemlcocdhmfaa
open Go.RowKit Go
set_option linter.unusedVariables false

theorem step_call1 {P : Program} {w : World} {ops : Array Oper} {o : Oper} {a : Act} {K : Act → World → Prop} {Q : Exit → Act → World → Prop} {E : Prop} (hgd : o.guard = none) (f : FuncId) (x : Operand) (t : TypeId)
    (ho : o.op = .call { callee := .value (.func f), args := #[x], argTypes := #[t] }) (v : Value) (hv : a.eval x = v)
    (hcf : ∀ w, (callFunc f #[v]).run P w = .ok (.enter f #[v]) w)
    (hc : Calls P f #[v] w fun e w' => ∃ u, e = .returned u ∧ K (a.put o.dst u) w') :
    if Region.wanted o (yielded ops a.tmps) = true then Oper.wp P o a w K Q else E := by
  have hw : Region.wanted o (yielded ops a.tmps) = true := by simp [Region.wanted, hgd]
  rw [if_pos hw]
  unfold Oper.wp
  have hrun : (execOp a.eval o).run P w = .ok (.enter f #[v]) w := by
    have hf : a.eval (.func f) = .func (.func f) #[] #[] := rfl
    simp [execOp, ho, resolve, invoke, hv, hf, Deferred.ofValue, hcf]
  rw [hrun, Oper.upon_enter]
  refine hc.mono ?_
  rintro e w' ⟨u, rfl, h⟩
  exact h
theorem copied_enter (v : Value) (w : World) : (callFunc 24 #[v]).run Try.prog w = .ok (.enter 24 #[v]) w := by kernel_rfl
end Go.Proofs.Ytfcemlcocdhmfaa
