/- For every input 'SkipOwn' of package tallagelaw08 returns true, and writes nothing that was there. No condition. -/
import Derived.Test.YtpgbinijocbfmaaRows
import Derived.WalkKit
import Derived.ProofKit
import Derived.OpenShut
import Derived.ShutString
import Derived.ChangeOld
import Derived.Below
import Derived.Lib.SmallJoins
import Derived.Deep.Slices
import Derived.Deep.Fields
import Derived.SizedLaws
import Derived.Test.YtpgbinijocbfmaaWOwn2
namespace Go.Proofs.Ytpgbinijocbfmaa.skipOwn
open Go.ChangeShapes Go.WideShapes Go.ChangeAt Go.RowKit Go.Joins Go.Deep
open Go.ChangeMaps (open_string shut_string)
set_option linter.unusedVariables false
set_option linter.unusedSimpArgs false

theorem own : ownKnob Try.prog.godebug = none := by kernel_rfl
theorem laidOut : laidOutB Try.prog = true := by kernel_rfl

set_option maxRecDepth 100000 in
theorem lifted (os : Os) (started : os.Started) (H : Type) (enc : TypeId × Value → H) :
    ReturnsInHanded {} Try.checked os 5 .any (Rows.skipOwnSpec.pre6 enc Try.prog Try.f5 Rows.skipOwnRow.domain false) (Rows.skipOwnSpec.post enc Try.prog Try.f5 false true false false) := by
  refine returnsInHanded_of_change_sized (C := Try.checked) own started (by kernel_rfl) Try.func5
    (ChangeSpec.witness6 (enc := enc) (C := Try.checked) false ⟨#[], #[.slice none 0 0, .agg #[.slice none 0 0, .int .i64 0, .bool false, .slice none 0 0, .int .i64 0]], []⟩ 8 (by kernel_rfl) (by kernel_rfl) (by kernel_rfl) (by kernel_rfl)) ?_
  intro W base args ds gs before hval0 hW hcnd hsz0 _
  have hval : ∀ (j : Nat) t v, Try.f5.params[j]? = some t → args[j]? = some v → Value.okWide Try.prog W .any base t v := hval0
  have hW' := hW
  obtain ⟨p, q, hA0, hV, rfl, hfz, hnd⟩ := hW
  have hA : DataW.TrodAll enc Try.prog W 0 (fun _ => true) true Try.f5.params.toList args.toList ds p := hA0
  have hsz : (DataW.weightsEach Try.prog (Try.f5.params.toList ++ Rows.skipOwnSpec.plain.varTypes Try.prog) (ds ++ gs)).all (· ≤ reachBytes) = true := hsz0
  rw [Try.params5] at hA hval hsz
  obtain ⟨v0, vs0, d0, ds0, p0, q0, hargs, rfl, rfl, h0, r0⟩ := trodAll_cons hA
  obtain ⟨v1, vs1, d1, ds1, p1, q1, rfl, rfl, rfl, h1, r1⟩ := trodAll_cons r0
  obtain ⟨rfl, rfl, rfl⟩ := trodAll_nil r1
  obtain rfl : args = #[v0, v1] := by cases args; simp_all
  obtain ⟨rfl, rfl⟩ := trodVars_none hV
  have k0 := h0
  have lt0 : ∀ x ∈ p0, x.block < W.heap.size := by obtain ⟨m, hm⟩ := k0; exact DataW.trod_lt m _ _ _ hm
  have k1 := h1
  have lt1 : ∀ x ∈ p1, x.block < W.heap.size := by obtain ⟨m, hm⟩ := k1; exact DataW.trod_lt m _ _ _ hm
  have hval1 := hval 0 22 v0 rfl rfl
  have hval2 := hval 1 37 v1 rfl rfl
  have wt0 : ∀ k ∈ d0.weights Try.prog 22, k ≤ reachBytes := fun k hk => by simpa using List.all_eq_true.1 hsz k (DataW.weights_mem_each (j := 0) rfl rfl k hk)
  have wt1 : ∀ k ∈ d1.weights Try.prog 37, k ≤ reachBytes := fun k hk => by simpa using List.all_eq_true.1 hsz k (DataW.weights_mem_each (j := 1) rfl rfl k hk)
  clear hsz hsz0
  clear hA0 hval0 hval
  obtain ⟨sa, slen, scap, rfl⟩ := okWide_slice Try.underlying22 hval1
  obtain ⟨fu, hfu⟩ := h0
  obtain ⟨A, c, its, hcs, hits, hlc, hcm⟩ := items_of hfu
  simp [Value.cells] at hcs
  obtain ⟨rfl, rfl, rfl⟩ := hcs
  have z0 := slice_weight Try.underlying22 hfu wt0
  rw [bytes_item] at z0
  obtain ⟨cs1, rfl, hcs1⟩ := okWide_struct Try.underlying37 hval2
  obtain ⟨fu1, hfu1⟩ := h1
  obtain ⟨Ak, ck, Av, cv, ir, idr, hi1, hi2⟩ := item_form hfu1
  obtain rfl : cs1 = #[.slice Ak ir.key.length ck, .int .i64 ir.seq, .bool ir.del, .slice Av ir.val.length cv, .int .i64 idr] := by
    apply Array.ext'; simpa [Value.cells] using hi1
  have z1 := item_weight (by simpa [Value.cells] using hfu1) wt1
  refine (skipOwn_walk sa its scap Ak ck Av cv ir idr W hits z0 z1.1 z1.2 hi2).mono fun e W' ⟨he, bel⟩ => ?_
  subst he
  exact ⟨_, rfl, _, _, _, [], _, [], hW', trodAll_mk1 (shut_bool Try.underlying4 _), (trodAll_cons_mk (Below.trod laidOut (by kernel_rfl) (of_decide_eq_true (by kernel_rfl)) k0 bel lt0) (trodAll_cons_mk (Below.trod laidOut (by kernel_rfl) (of_decide_eq_true (by kernel_rfl)) k1 bel lt1) trodAll_mk0)), rfl, bel.frame _, fun h => by cases h⟩

theorem over : Rows.skipOwnRow.holds Try.pinned (OpenSpec.ofChange Rows.skipOwnSpec) :=
  OpenClaim.holds_of_wide 5 Try.f5 rfl rfl rfl rfl rfl rfl rfl ⟨rfl, rfl, rfl, rfl, rfl⟩ rfl rfl rfl rfl rfl (by kernel_rfl) Try.func5 (by kernel_rfl)
    (of_decide_eq_true (by kernel_rfl)) (by unfold Func.isWrapper; first | (rw [if_pos (by decide +kernel)]; kernel_rfl) | (rw [if_neg (by decide +kernel)]; exact ⟨rfl, rfl⟩))
    (fun os started H enc _ => lifted os started H enc)

theorem proved : Rows.SkipOwnSaid := over
#print axioms proved
end Go.Proofs.Ytpgbinijocbfmaa.skipOwn
