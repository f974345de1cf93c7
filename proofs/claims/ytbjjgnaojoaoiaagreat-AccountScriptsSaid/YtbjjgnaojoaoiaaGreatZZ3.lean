/- Laws. -/
import Derived.Test.YtbjjgnaojoaoiaaGreatZZ0
import Derived.Deep.RegionLaw
namespace Go.Proofs.YtbjjgnaojoaoiaaGreat
open Go.RowKit Go
set_option linter.unusedVariables false
set_option linter.unusedSimpArgs false
set_option maxHeartbeats 1600000
set_option maxRecDepth 100000
section
variable {P : Program} {w : World} {ops : Array Oper} {o : Oper} {a : Act} {K : Act → World → Prop} {Q : Exit → Act → World → Prop} {E : Prop}
theorem step_callL (hgd : o.guard = none) (f : FuncId) (xs : Array Operand) (ts : Array TypeId) (vs : Array Value)
  (ho : o.op = .call { callee := .value (.func f), args := xs, argTypes := ts }) (hv : xs.map a.eval = vs)
  (hcf : ∀ w, (callFunc f vs).run P w = .ok (.enter f vs) w)
  (hc : Calls P f vs w fun | .returned u, w' => K (a.put o.dst u) w' | .panicked ch, w' => Q (.panic ch) a w' | .outgrown, _ => LetsOut Q) :
  if Region.wanted o (yielded ops a.tmps) = true then Oper.wp P o a w K Q else E := by
 have hw : Region.wanted o (yielded ops a.tmps) = true := by simp [Region.wanted, hgd]
 rw [if_pos hw]
 unfold Oper.wp
 have hrun : (execOp a.eval o).run P w = .ok (.enter f vs) w := by
  have hf : a.eval (.func f) = .func (.func f) #[] #[] := rfl
  subst hv
  simp [execOp, ho, resolve, invoke, hf, Deferred.ofValue, hcf]
 rw [hrun, Oper.upon_enter]
 exact hc
theorem step_call1R (hgd : o.guard = none) (f : FuncId) (x : Operand) (s : TypeId)
  (ho : o.op = .call { callee := .value (.func f), args := #[x], argTypes := #[s] }) (u : Value) (hu : a.eval x = u)
  (hcf : ∀ w, (callFunc f #[u]).run P w = .ok (.enter f #[u]) w)
  (hc : Calls P f #[u] w fun e w' => ∃ u, e = .returned u ∧ K (a.put o.dst u) w') :
  if Region.wanted o (yielded ops a.tmps) = true then Oper.wp P o a w K Q else E :=
 step_callL hgd f _ _ #[u] ho (by subst hu; simp) hcf (hc.mono (by rintro e w' ⟨u, rfl, h⟩; exact h))
theorem step_call2R (hgd : o.guard = none) (f : FuncId) (x y : Operand) (s t : TypeId)
  (ho : o.op = .call { callee := .value (.func f), args := #[x, y], argTypes := #[s, t] }) (u v : Value) (hu : a.eval x = u) (hv : a.eval y = v)
  (hcf : ∀ w, (callFunc f #[u, v]).run P w = .ok (.enter f #[u, v]) w)
  (hc : Calls P f #[u, v] w fun e w' => ∃ u, e = .returned u ∧ K (a.put o.dst u) w') :
  if Region.wanted o (yielded ops a.tmps) = true then Oper.wp P o a w K Q else E :=
 step_callL hgd f _ _ #[u, v] ho (by subst hu hv; simp) hcf (hc.mono (by rintro e w' ⟨u, rfl, h⟩; exact h))
theorem step_call3R (hgd : o.guard = none) (f : FuncId) (x y z : Operand) (s t r : TypeId)
  (ho : o.op = .call { callee := .value (.func f), args := #[x, y, z], argTypes := #[s, t, r] }) (u v q : Value) (hu : a.eval x = u) (hv : a.eval y = v) (hq : a.eval z = q)
  (hcf : ∀ w, (callFunc f #[u, v, q]).run P w = .ok (.enter f #[u, v, q]) w)
  (hc : Calls P f #[u, v, q] w fun e w' => ∃ u, e = .returned u ∧ K (a.put o.dst u) w') :
  if Region.wanted o (yielded ops a.tmps) = true then Oper.wp P o a w K Q else E :=
 step_callL hgd f _ _ #[u, v, q] ho (by subst hu hv hq; simp) hcf (hc.mono (by rintro e w' ⟨u, rfl, h⟩; exact h))
theorem step_call4R (hgd : o.guard = none) (f : FuncId) (x y z k : Operand) (s t r l : TypeId)
  (ho : o.op = .call { callee := .value (.func f), args := #[x, y, z, k], argTypes := #[s, t, r, l] }) (u v q m : Value) (hu : a.eval x = u) (hv : a.eval y = v) (hq : a.eval z = q) (hm : a.eval k = m)
  (hcf : ∀ w, (callFunc f #[u, v, q, m]).run P w = .ok (.enter f #[u, v, q, m]) w)
  (hc : Calls P f #[u, v, q, m] w fun e w' => ∃ u, e = .returned u ∧ K (a.put o.dst u) w') :
  if Region.wanted o (yielded ops a.tmps) = true then Oper.wp P o a w K Q else E :=
 step_callL hgd f _ _ #[u, v, q, m] ho (by subst hu hv hq hm; simp) hcf (hc.mono (by rintro e w' ⟨u, rfl, h⟩; exact h))
theorem step_call2P (hgd : o.guard = none) (f : FuncId) (x y : Operand) (s t : TypeId)
  (ho : o.op = .call { callee := .value (.func f), args := #[x, y], argTypes := #[s, t] }) (u v : Value) (hu : a.eval x = u) (hv : a.eval y = v)
  (hcf : ∀ w, (callFunc f #[u, v]).run P w = .ok (.enter f #[u, v]) w)
  (hc : Calls P f #[u, v] w fun e w' => ∃ ch, e = .panicked ch ∧ Q (.panic ch) a w')
  (hd : wpAny P .any #[] (fun _ _ _ => True) 0 #[] a w) :
  if Region.wanted o (yielded ops a.tmps) = true then Oper.wp P o a w K Q else E :=
 step_callL hgd f _ _ #[u, v] ho (by subst hu hv; simp) hcf (hc.mono (by rintro e w' ⟨u, rfl, h⟩; exact h))
end
theorem step_app {P : Program} {w : World} {ops : Array Oper} {o : Oper} {a : Act} {K : Act → World → Prop} {Q : Exit → Act → World → Prop} {E : Prop} (hgd : o.guard = none) (s x : Operand) (t : TypeId) (ho : o.op = .call { callee := .builtin .append, args := #[s, x], argTypes := #[t, t] })
  (base : Nat) (e : TypeId) (i : TypeInfo) (z : Value) (size bytes : Nat) (ht : P.underlying t = some (.slice e)) (hi : P.info? e = some i) (hz : i.zero = some z)
  (hsize : i.size = size) (hby : i.bytes = bytes) (hzs : z.cells.size = size) (hsz : 0 < size) (v : Value) (n : Nat) (xs : List Value) (hs : a.eval s = v) (hown : w.ownsRow base e size v n xs)
  (B : Nat) (A : Option Addr) (m c : Nat) (news : List Value) (hx : a.eval x = .slice A m c) (hr : Rd w B size A m news) (h1 : ∀ u ∈ news, u.oneCell' = true)
  (h63 : n + m ≤ maxLen) (hbytes : (n + m) * bytes ≤ 140737488355328) (hbase : base ≤ w.heap.size)
  (h : ∀ v' w', w'.ownsRow base e size v' (n + m) (xs ++ news) → w.grownBy w' v.ownBlock → (v'.ownBlock = v.ownBlock ∨ v'.ownBlock = some w.heap.size) → K (a.put o.dst v') w') :
  if Region.wanted o (yielded ops a.tmps) = true then Oper.wp P o a w K Q else E := by
 have hw : Region.wanted o (yielded ops a.tmps) = true := by simp [Region.wanted, hgd]
 rw [if_pos hw]
 exact wp_app s x t ho base e i z size bytes ht hi hz hsize hby hzs hsz v n xs hs hown B A m c news hx hr h1 h63 hbytes hbase h
end Go.Proofs.YtbjjgnaojoaoiaaGreat
