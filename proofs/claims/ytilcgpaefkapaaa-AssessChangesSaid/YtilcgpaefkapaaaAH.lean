/- assess.Change. -/
import Derived.Test.YtilcgpaefkapaaaAE0
namespace Go.Proofs.Ytilcgpaefkapaaa
open Go.RowKit Go
set_option linter.unusedVariables false
set_option linter.unusedSimpArgs false

theorem fld2_any (b : Bl) (w : World) : Calls Try.prog 37 #[blV b] w fun e w' => e = .returned (.int .i64 b.tax) ∧ Below w.heap.size w w' := by
  go_enter Try.func37, Try.ntmps37
  go_wp2_with fail
  go_ret
  exact ⟨rfl, below_new _ _⟩
theorem fld3_any (b : Bl) (w : World) : Calls Try.prog 38 #[blV b] w fun e w' => e = .returned (.int .i64 b.prin) ∧ Below w.heap.size w w' := by
  go_enter Try.func38, Try.ntmps38
  go_wp2_with fail
  go_ret
  exact ⟨rfl, below_new _ _⟩
theorem fld4_any (b : Bl) (w : World) : Calls Try.prog 39 #[blV b] w fun e w' => e = .returned (.int .i64 b.pen) ∧ Below w.heap.size w w' := by
  go_enter Try.func39, Try.ntmps39
  go_wp2_with fail
  go_ret
  exact ⟨rfl, below_new _ _⟩
theorem fld5_any (b : Bl) (w : World) : Calls Try.prog 40 #[blV b] w fun e w' => e = .returned (.int .i64 b.exc) ∧ Below w.heap.size w w' := by
  go_enter Try.func40, Try.ntmps40
  go_wp2_with fail
  go_ret
  exact ⟨rfl, below_new _ _⟩
set_option maxHeartbeats 1600000 in
theorem more2_any (a b : Bl) (ga gb : Nat) (w : World) (hga : w.heap[ga]? = some (blO a.tax a.prin a.pen a.exc)) (hgb : w.heap[gb]? = some (blO b.tax b.prin b.pen b.exc)) (hbd : -9223372036854775808 ≤ b.tax - a.tax ∧ b.tax - a.tax ≤ 9223372036854775807) :
    Calls Try.prog 36 #[.func (.func 37) #[] #[], .pointer (some ⟨gb, 0, none⟩), .pointer (some ⟨ga, 0, none⟩)] w fun e w' => e = .returned (.int .i64 (b.tax - a.tax)) ∧ Below w.heap.size w w' := by
  obtain ⟨u0, u1, u2, u3, -⟩ := cells4B hga
  obtain ⟨v0, v1, v2, v3, -⟩ := cells4B hgb
  have zu := blk_lt hga; have zv := blk_lt hgb
  have HA := Lib.hid (fun wx => fld2_any a wx); have HB := Lib.hid (fun wx => fld2_any b wx)
  obtain ⟨VA, hVA⟩ : ∃ V, blV a = V := ⟨_, rfl⟩
  have hs : IntKind.i64.wrap (b.tax - a.tax) = b.tax - a.tax := IntWalk.i64_in _ hbd
  clear hga hgb hVA
  go_enter Try.func36, Try.ntmps36
  go_wp2_with fail
  go_region_held3 (fun w' => w'.cell? ⟨gb, 0, none⟩ = some (.int .i64 b.tax) ∧ w'.cell? ⟨gb, 1, none⟩ = some (.int .i64 b.prin) ∧ w'.cell? ⟨gb, 2, none⟩ = some (.int .i64 b.pen) ∧ w'.cell? ⟨gb, 3, none⟩ = some (.int .i64 b.exc) ∧ w'.cell? ⟨ga, 0, none⟩ = some (.int .i64 a.tax) ∧ w'.cell? ⟨ga, 1, none⟩ = some (.int .i64 a.prin) ∧ w'.cell? ⟨ga, 2, none⟩ = some (.int .i64 a.pen) ∧ w'.cell? ⟨ga, 3, none⟩ = some (.int .i64 a.exc))
    ((first | (with_reducible exact ⟨v0, v1, v2, v3, u0, u1, u2, u3⟩) | exact ⟨v0, v1, v2, v3, u0, u1, u2, u3⟩ | exact ⟨(hcB _ zv).trans v0, (hcB _ zv).trans v1, (hcB _ zv).trans v2, (hcB _ zv).trans v3, (hcB _ zu).trans u0, (hcB _ zu).trans u1, (hcB _ zu).trans u2, (hcB _ zu).trans u3⟩))
    ((go_at_call 37; first | ((with_reducible refine (HB.out _).mono ?_); rintro e wa ⟨rfl, hwa⟩; have HWA : Hid (Below w.heap.size w wa) := Lib.hid (by first | exact hwa | exact below_drewA hwa); have hcB := fun (p : Addr) (hp : p.block < w.heap.size) => HWA.out.cell hp; clear hwa) | ((with_reducible refine (HA.out _).mono ?_); rintro e wb ⟨rfl, hwb⟩; have HWB : Hid (Below w.heap.size w wb) := Lib.hid (HWA.out.trans (Below.mono (by first | exact hwb | exact below_drewA hwb) HWA.out.size)); have hcB := fun (p : Addr) (hp : p.block < w.heap.size) => HWB.out.cell hp; clear hwb)))
  all_goals go_wp2_with fail
  all_goals go_ret
  all_goals exact ⟨rfl, HWB.out⟩
set_option maxHeartbeats 1600000 in
theorem more3_any (a b : Bl) (ga gb : Nat) (w : World) (hga : w.heap[ga]? = some (blO a.tax a.prin a.pen a.exc)) (hgb : w.heap[gb]? = some (blO b.tax b.prin b.pen b.exc)) (hbd : -9223372036854775808 ≤ b.prin - a.prin ∧ b.prin - a.prin ≤ 9223372036854775807) :
    Calls Try.prog 36 #[.func (.func 38) #[] #[], .pointer (some ⟨gb, 0, none⟩), .pointer (some ⟨ga, 0, none⟩)] w fun e w' => e = .returned (.int .i64 (b.prin - a.prin)) ∧ Below w.heap.size w w' := by
  obtain ⟨u0, u1, u2, u3, -⟩ := cells4B hga
  obtain ⟨v0, v1, v2, v3, -⟩ := cells4B hgb
  have zu := blk_lt hga; have zv := blk_lt hgb
  have HA := Lib.hid (fun wx => fld3_any a wx); have HB := Lib.hid (fun wx => fld3_any b wx)
  obtain ⟨VA, hVA⟩ : ∃ V, blV a = V := ⟨_, rfl⟩
  have hs : IntKind.i64.wrap (b.prin - a.prin) = b.prin - a.prin := IntWalk.i64_in _ hbd
  clear hga hgb hVA
  go_enter Try.func36, Try.ntmps36
  go_wp2_with fail
  go_region_held3 (fun w' => w'.cell? ⟨gb, 0, none⟩ = some (.int .i64 b.tax) ∧ w'.cell? ⟨gb, 1, none⟩ = some (.int .i64 b.prin) ∧ w'.cell? ⟨gb, 2, none⟩ = some (.int .i64 b.pen) ∧ w'.cell? ⟨gb, 3, none⟩ = some (.int .i64 b.exc) ∧ w'.cell? ⟨ga, 0, none⟩ = some (.int .i64 a.tax) ∧ w'.cell? ⟨ga, 1, none⟩ = some (.int .i64 a.prin) ∧ w'.cell? ⟨ga, 2, none⟩ = some (.int .i64 a.pen) ∧ w'.cell? ⟨ga, 3, none⟩ = some (.int .i64 a.exc))
    ((first | (with_reducible exact ⟨v0, v1, v2, v3, u0, u1, u2, u3⟩) | exact ⟨v0, v1, v2, v3, u0, u1, u2, u3⟩ | exact ⟨(hcB _ zv).trans v0, (hcB _ zv).trans v1, (hcB _ zv).trans v2, (hcB _ zv).trans v3, (hcB _ zu).trans u0, (hcB _ zu).trans u1, (hcB _ zu).trans u2, (hcB _ zu).trans u3⟩))
    ((go_at_call 38; first | ((with_reducible refine (HB.out _).mono ?_); rintro e wa ⟨rfl, hwa⟩; have HWA : Hid (Below w.heap.size w wa) := Lib.hid (by first | exact hwa | exact below_drewA hwa); have hcB := fun (p : Addr) (hp : p.block < w.heap.size) => HWA.out.cell hp; clear hwa) | ((with_reducible refine (HA.out _).mono ?_); rintro e wb ⟨rfl, hwb⟩; have HWB : Hid (Below w.heap.size w wb) := Lib.hid (HWA.out.trans (Below.mono (by first | exact hwb | exact below_drewA hwb) HWA.out.size)); have hcB := fun (p : Addr) (hp : p.block < w.heap.size) => HWB.out.cell hp; clear hwb)))
  all_goals go_wp2_with fail
  all_goals go_ret
  all_goals exact ⟨rfl, HWB.out⟩
set_option maxHeartbeats 1600000 in
theorem more4_any (a b : Bl) (ga gb : Nat) (w : World) (hga : w.heap[ga]? = some (blO a.tax a.prin a.pen a.exc)) (hgb : w.heap[gb]? = some (blO b.tax b.prin b.pen b.exc)) (hbd : -9223372036854775808 ≤ b.pen - a.pen ∧ b.pen - a.pen ≤ 9223372036854775807) :
    Calls Try.prog 36 #[.func (.func 39) #[] #[], .pointer (some ⟨gb, 0, none⟩), .pointer (some ⟨ga, 0, none⟩)] w fun e w' => e = .returned (.int .i64 (b.pen - a.pen)) ∧ Below w.heap.size w w' := by
  obtain ⟨u0, u1, u2, u3, -⟩ := cells4B hga
  obtain ⟨v0, v1, v2, v3, -⟩ := cells4B hgb
  have zu := blk_lt hga; have zv := blk_lt hgb
  have HA := Lib.hid (fun wx => fld4_any a wx); have HB := Lib.hid (fun wx => fld4_any b wx)
  obtain ⟨VA, hVA⟩ : ∃ V, blV a = V := ⟨_, rfl⟩
  have hs : IntKind.i64.wrap (b.pen - a.pen) = b.pen - a.pen := IntWalk.i64_in _ hbd
  clear hga hgb hVA
  go_enter Try.func36, Try.ntmps36
  go_wp2_with fail
  go_region_held3 (fun w' => w'.cell? ⟨gb, 0, none⟩ = some (.int .i64 b.tax) ∧ w'.cell? ⟨gb, 1, none⟩ = some (.int .i64 b.prin) ∧ w'.cell? ⟨gb, 2, none⟩ = some (.int .i64 b.pen) ∧ w'.cell? ⟨gb, 3, none⟩ = some (.int .i64 b.exc) ∧ w'.cell? ⟨ga, 0, none⟩ = some (.int .i64 a.tax) ∧ w'.cell? ⟨ga, 1, none⟩ = some (.int .i64 a.prin) ∧ w'.cell? ⟨ga, 2, none⟩ = some (.int .i64 a.pen) ∧ w'.cell? ⟨ga, 3, none⟩ = some (.int .i64 a.exc))
    ((first | (with_reducible exact ⟨v0, v1, v2, v3, u0, u1, u2, u3⟩) | exact ⟨v0, v1, v2, v3, u0, u1, u2, u3⟩ | exact ⟨(hcB _ zv).trans v0, (hcB _ zv).trans v1, (hcB _ zv).trans v2, (hcB _ zv).trans v3, (hcB _ zu).trans u0, (hcB _ zu).trans u1, (hcB _ zu).trans u2, (hcB _ zu).trans u3⟩))
    ((go_at_call 39; first | ((with_reducible refine (HB.out _).mono ?_); rintro e wa ⟨rfl, hwa⟩; have HWA : Hid (Below w.heap.size w wa) := Lib.hid (by first | exact hwa | exact below_drewA hwa); have hcB := fun (p : Addr) (hp : p.block < w.heap.size) => HWA.out.cell hp; clear hwa) | ((with_reducible refine (HA.out _).mono ?_); rintro e wb ⟨rfl, hwb⟩; have HWB : Hid (Below w.heap.size w wb) := Lib.hid (HWA.out.trans (Below.mono (by first | exact hwb | exact below_drewA hwb) HWA.out.size)); have hcB := fun (p : Addr) (hp : p.block < w.heap.size) => HWB.out.cell hp; clear hwb)))
  all_goals go_wp2_with fail
  all_goals go_ret
  all_goals exact ⟨rfl, HWB.out⟩
set_option maxHeartbeats 1600000 in
theorem more5_any (a b : Bl) (ga gb : Nat) (w : World) (hga : w.heap[ga]? = some (blO a.tax a.prin a.pen a.exc)) (hgb : w.heap[gb]? = some (blO b.tax b.prin b.pen b.exc)) (hbd : -9223372036854775808 ≤ b.exc - a.exc ∧ b.exc - a.exc ≤ 9223372036854775807) :
    Calls Try.prog 36 #[.func (.func 40) #[] #[], .pointer (some ⟨gb, 0, none⟩), .pointer (some ⟨ga, 0, none⟩)] w fun e w' => e = .returned (.int .i64 (b.exc - a.exc)) ∧ Below w.heap.size w w' := by
  obtain ⟨u0, u1, u2, u3, -⟩ := cells4B hga
  obtain ⟨v0, v1, v2, v3, -⟩ := cells4B hgb
  have zu := blk_lt hga; have zv := blk_lt hgb
  have HA := Lib.hid (fun wx => fld5_any a wx); have HB := Lib.hid (fun wx => fld5_any b wx)
  obtain ⟨VA, hVA⟩ : ∃ V, blV a = V := ⟨_, rfl⟩
  have hs : IntKind.i64.wrap (b.exc - a.exc) = b.exc - a.exc := IntWalk.i64_in _ hbd
  clear hga hgb hVA
  go_enter Try.func36, Try.ntmps36
  go_wp2_with fail
  go_region_held3 (fun w' => w'.cell? ⟨gb, 0, none⟩ = some (.int .i64 b.tax) ∧ w'.cell? ⟨gb, 1, none⟩ = some (.int .i64 b.prin) ∧ w'.cell? ⟨gb, 2, none⟩ = some (.int .i64 b.pen) ∧ w'.cell? ⟨gb, 3, none⟩ = some (.int .i64 b.exc) ∧ w'.cell? ⟨ga, 0, none⟩ = some (.int .i64 a.tax) ∧ w'.cell? ⟨ga, 1, none⟩ = some (.int .i64 a.prin) ∧ w'.cell? ⟨ga, 2, none⟩ = some (.int .i64 a.pen) ∧ w'.cell? ⟨ga, 3, none⟩ = some (.int .i64 a.exc))
    ((first | (with_reducible exact ⟨v0, v1, v2, v3, u0, u1, u2, u3⟩) | exact ⟨v0, v1, v2, v3, u0, u1, u2, u3⟩ | exact ⟨(hcB _ zv).trans v0, (hcB _ zv).trans v1, (hcB _ zv).trans v2, (hcB _ zv).trans v3, (hcB _ zu).trans u0, (hcB _ zu).trans u1, (hcB _ zu).trans u2, (hcB _ zu).trans u3⟩))
    ((go_at_call 40; first | ((with_reducible refine (HB.out _).mono ?_); rintro e wa ⟨rfl, hwa⟩; have HWA : Hid (Below w.heap.size w wa) := Lib.hid (by first | exact hwa | exact below_drewA hwa); have hcB := fun (p : Addr) (hp : p.block < w.heap.size) => HWA.out.cell hp; clear hwa) | ((with_reducible refine (HA.out _).mono ?_); rintro e wb ⟨rfl, hwb⟩; have HWB : Hid (Below w.heap.size w wb) := Lib.hid (HWA.out.trans (Below.mono (by first | exact hwb | exact below_drewA hwb) HWA.out.size)); have hcB := fun (p : Addr) (hp : p.block < w.heap.size) => HWB.out.cell hp; clear hwb)))
  all_goals go_wp2_with fail
  all_goals go_ret
  all_goals exact ⟨rfl, HWB.out⟩
end Go.Proofs.Ytilcgpaefkapaaa
