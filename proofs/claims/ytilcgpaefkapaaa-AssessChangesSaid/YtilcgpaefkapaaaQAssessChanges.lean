/- For every input 'AssessChanges' of package tallagelaw16 returns true, and writes nothing that was there. No condition. -/
import Derived.Test.YtilcgpaefkapaaaRows
import Derived.WalkKit
import Derived.ProofKit
import Derived.OpenShut
import Derived.ShutString
import Derived.ChangeOld
import Derived.Below
import Derived.Lib.SmallJoins
import Derived.Deep.Slices
import Derived.Deep.Fields
import Derived.Test.YtilcgpaefkapaaaLChanges
namespace Go.Proofs.Ytilcgpaefkapaaa.assessChanges
open Go.ChangeShapes Go.WideShapes Go.ChangeAt Go.RowKit Go.Joins Go.Deep
open Go.ChangeMaps (open_string shut_string)
set_option linter.unusedVariables false
set_option linter.unusedSimpArgs false

theorem own : ownKnob Try.prog.godebug = none := by kernel_rfl
theorem laidOut : laidOutB Try.prog = true := by kernel_rfl

set_option maxRecDepth 100000 in
theorem lifted (os : Os) (started : os.Started) (H : Type) (enc : TypeId × Value → H) :
    ReturnsInHanded {} Try.checked os 7 .any (Rows.assessChangesSpec.pre6 enc Try.prog Try.f7 Rows.assessChangesRow.domain false) (Rows.assessChangesSpec.post enc Try.prog Try.f7 false true false false) := by
  refine returnsInHanded_of_change (C := Try.checked) own started (by kernel_rfl) Try.func7
    (ChangeSpec.witness6 (enc := enc) (C := Try.checked) false ⟨#[], #[.agg #[.slice none 0 0, .int .i64 0, .int .i64 0, .int .i64 0, .int .i64 0, .int .i64 0], .agg #[.int .i64 0, .int .i64 0, .int .i64 0, .int .i64 0, .int .i64 0], .agg #[.int .i64 0, .int .i64 0, .int .i64 0, .int .i64 0, .int .i64 0]], []⟩ 8 (by kernel_rfl) (by kernel_rfl) (by kernel_rfl) (by kernel_rfl)) ?_
  intro W base args ds gs before hval0 hW hcnd _
  have hval : ∀ (j : Nat) t v, Try.f7.params[j]? = some t → args[j]? = some v → Value.okWide Try.prog W .any base t v := hval0
  have hW' := hW
  obtain ⟨p, q, hA0, hV, rfl, hfz, hnd⟩ := hW
  have hA : DataW.TrodAll enc Try.prog W 0 (fun _ => true) true Try.f7.params.toList args.toList ds p := hA0
  rw [Try.params7] at hA hval
  obtain ⟨v0, vs0, d0, ds0, p0, q0, hargs, rfl, rfl, h0, r0⟩ := trodAll_cons hA
  obtain ⟨v1, vs1, d1, ds1, p1, q1, rfl, rfl, rfl, h1, r1⟩ := trodAll_cons r0
  obtain ⟨v2, vs2, d2, ds2, p2, q2, rfl, rfl, rfl, h2, r2⟩ := trodAll_cons r1
  obtain ⟨rfl, rfl, rfl⟩ := trodAll_nil r2
  obtain rfl : args = #[v0, v1, v2] := by cases args; simp_all
  obtain ⟨rfl, rfl⟩ := trodVars_none hV
  have k0 := h0
  have lt0 : ∀ x ∈ p0, x.block < W.heap.size := by obtain ⟨m, hm⟩ := k0; exact DataW.trod_lt m _ _ _ hm
  have k1 := h1
  have lt1 : ∀ x ∈ p1, x.block < W.heap.size := by obtain ⟨m, hm⟩ := k1; exact DataW.trod_lt m _ _ _ hm
  have k2 := h2
  have lt2 : ∀ x ∈ p2, x.block < W.heap.size := by obtain ⟨m, hm⟩ := k2; exact DataW.trod_lt m _ _ _ hm
  have hval1 := hval 0 29 v0 rfl rfl
  have hval2 := hval 1 31 v1 rfl rfl
  have hval3 := hval 2 31 v2 rfl rfl
  clear hA0 hval0 hval
  obtain ⟨cs0, rfl, hcs0⟩ := okWide_struct Try.underlying29 hval1
  obtain ⟨fu0, hfu0⟩ := h0
  obtain ⟨sa, sc, s, hs1, hs2⟩ := sched_form hfu0
  obtain rfl : cs0 = #[.slice sa s.bs.length sc, .int .i64 s.ded, .int .i64 s.cred, .int .i64 s.lbp, .int .i64 s.most, .int .i64 s.least] := by
    apply Array.ext'; simpa [Value.cells] using hs1
  obtain ⟨cs1, rfl, hcs1⟩ := okWide_struct Try.underlying31 hval2
  obtain ⟨fu1, hfu1⟩ := h1
  obtain ⟨r, hr1⟩ := ret_form hfu1
  obtain rfl : cs1 = #[.int .i64 r.per, .int .i64 r.due, .int .i64 r.filed, .int .i64 r.inc, .int .i64 r.wh] := by
    apply Array.ext'; simpa [Value.cells] using hr1
  obtain ⟨cs2, rfl, hcs2⟩ := okWide_struct Try.underlying31 hval3
  obtain ⟨fu2, hfu2⟩ := h2
  obtain ⟨r2, hr2⟩ := ret_form hfu2
  obtain rfl : cs2 = #[.int .i64 r2.per, .int .i64 r2.due, .int .i64 r2.filed, .int .i64 r2.inc, .int .i64 r2.wh] := by
    apply Array.ext'; simpa [Value.cells] using hr2
  refine (assessChanges_walk sa s.bs.length sc s r r2 W rfl hs2).mono fun e W' ⟨he, bel⟩ => ?_
  subst he
  exact ⟨_, rfl, _, _, _, [], _, [], hW', trodAll_mk1 (shut_bool Try.underlying4 _), (trodAll_cons_mk (Below.trod laidOut (by kernel_rfl) (of_decide_eq_true (by kernel_rfl)) k0 bel lt0) (trodAll_cons_mk (Below.trod laidOut (by kernel_rfl) (of_decide_eq_true (by kernel_rfl)) k1 bel lt1) (trodAll_cons_mk (Below.trod laidOut (by kernel_rfl) (of_decide_eq_true (by kernel_rfl)) k2 bel lt2) trodAll_mk0))), rfl, bel.frame _, fun h => by cases h⟩

theorem over : Rows.assessChangesRow.holds Try.pinned (OpenSpec.ofChange Rows.assessChangesSpec) :=
  OpenClaim.holds_of_wide 7 Try.f7 rfl rfl rfl rfl rfl rfl rfl ⟨rfl, rfl, rfl, rfl, rfl⟩ rfl rfl rfl rfl rfl (by kernel_rfl) Try.func7 (by kernel_rfl)
    (of_decide_eq_true (by kernel_rfl)) (by unfold Func.isWrapper; first | (rw [if_pos (by decide +kernel)]; kernel_rfl) | (rw [if_neg (by decide +kernel)]; exact ⟨rfl, rfl⟩))
    (fun os started H enc _ => lifted os started H enc)

theorem proved : Rows.AssessChangesSaid := over
#print axioms proved
end Go.Proofs.Ytilcgpaefkapaaa.assessChanges
