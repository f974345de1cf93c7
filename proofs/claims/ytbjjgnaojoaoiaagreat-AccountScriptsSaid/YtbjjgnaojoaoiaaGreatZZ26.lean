/- Laws. -/
import Derived.Test.YtbjjgnaojoaoiaaGreatZZ13
namespace Go.Proofs.YtbjjgnaojoaoiaaGreat
open Go.RowKit Go
set_option linter.unusedVariables false
set_option linter.unusedSimpArgs false
set_option maxHeartbeats 3200000
set_option maxRecDepth 100000
def Ret.moved (a b : Ret) : Ret := { b with due := a.due, filed := a.filed }
theorem change_no1 {s : Sch} {a b : Ret} (h : ¬ (okS s = true ∧ retB a = true)) : changeS s a b = (Bl.zero, 1) := by
 unfold changeS; rw [if_neg]; intro h2; simp only [Bool.and_eq_true] at h2; exact h ⟨h2.1.1, h2.1.2⟩
theorem change_no2 {s : Sch} {a b : Ret} (h : ¬ retB b = true) : changeS s a b = (Bl.zero, 1) := by
 unfold changeS; rw [if_neg]; intro h2; simp only [Bool.and_eq_true] at h2; exact h h2.2
theorem change_ord {s : Sch} {a b : Ret} (h1 : okS s = true) (h2 : retB a = true) (h3 : retB b = true) (h : a.per ≠ b.per ∨ b.filed < a.filed) : changeS s a b = (Bl.zero, 10) := by
 unfold changeS; rw [h1, h2, h3]; exact (if_pos rfl).trans (if_pos h)
theorem change_yes {s : Sch} {a b : Ret} (h1 : okS s = true) (h2 : retB a = true) (h3 : retB b = true) (h : ¬ (a.per ≠ b.per ∨ b.filed < a.filed)) : changeS s a b = ((billV s (a.moved b)).sub (billV s a), 0) := by
 unfold changeS; rw [h1, h2, h3]; exact (if_pos rfl).trans (if_neg h)
structure ChBox (w W : World) (A : Option Addr) (n c : Nat) (s : Sch) (a f : Ret) : Prop where
 b0 : W.heap[w.heap.size]? = some (schO A n c s)
 b1 : W.heap[w.heap.size + 1]? = some (retO a 37)
 b2 : W.heap[w.heap.size + 1 + 1]? = some (retO f 37)
 b3 : W.heap[w.heap.size + 1 + 1 + 1]? = some (blO 0 0 0 0)
 bel : Below w.heap.size w W
theorem ChBox.start (w : World) (A : Option Addr) (n c : Nat) (s : Sch) (a f : Ret) : ChBox w ((((w.alloc (schO A n c s)).alloc (retO a 37)).alloc (retO f 37)).alloc (blO 0 0 0 0)) A n c s a f :=
 ⟨blk_alloc (blk_alloc (blk_alloc (blk_new w _ rfl) _) _) _, blk_alloc (blk_alloc (blk_new _ _ (by simp)) _) _, blk_alloc (blk_new _ _ (by simp)) _, blk_new _ _ (by simp), ((((Below.refl _ _).alloc (Nat.le_refl _) _).alloc (by simp) _).alloc (by simp; omega) _).alloc (by simp; omega) _⟩
theorem ChBox.up {w W W' : World} {A : Option Addr} {n c : Nat} {s : Sch} {a f : Ret} (h : ChBox w W A n c s a f) (hb : Below W.heap.size W W') : ChBox w W' A n c s a f :=
 ⟨blk_below h.b0 hb (blk_lt h.b0), blk_below h.b1 hb (blk_lt h.b1), blk_below h.b2 hb (blk_lt h.b2), blk_below h.b3 hb (blk_lt h.b3), h.bel.trans (hb.mono h.bel.size)⟩
theorem ChBox.move {w W : World} {A : Option Addr} {n c : Nat} {s : Sch} {a f : Ret} (h : ChBox w W A n c s a f) : ChBox w ((W.setCell ⟨w.heap.size + 1 + 1, 1, none⟩ (.int .i64 a.due)).setCell ⟨w.heap.size + 1 + 1, 2, none⟩ (.int .i64 a.filed)) A n c s a (a.moved f) :=
 ⟨blk_far (p := ⟨w.heap.size + 1 + 1, 2, none⟩) (blk_far (p := ⟨w.heap.size + 1 + 1, 1, none⟩) h.b0 (by simp; try omega) _) (by simp; try omega) _, blk_far (p := ⟨w.heap.size + 1 + 1, 2, none⟩) (blk_far (p := ⟨w.heap.size + 1 + 1, 1, none⟩) h.b1 (by simp; try omega) _) (by simp; try omega) _,
  blk_set (blk_set h.b2 1 _) 2 _, blk_far (p := ⟨w.heap.size + 1 + 1, 2, none⟩) (blk_far (p := ⟨w.heap.size + 1 + 1, 1, none⟩) h.b3 (by simp; try omega) _) (by simp; try omega) _, (h.bel.setCell (p := ⟨w.heap.size + 1 + 1, 1, none⟩) (by show w.heap.size ≤ w.heap.size + 1 + 1; omega) _).setCell (p := ⟨w.heap.size + 1 + 1, 2, none⟩) (by show w.heap.size ≤ w.heap.size + 1 + 1; omega) _⟩
theorem billS_err {s : Sch} {a : Ret} (h : ¬ (okS s = true ∧ retB a = true)) : billS s a = (Bl.zero, 1) := by
 by_cases h1 : okS s = true
 · exact billS_no2 (fun h2 => h ⟨h1, h2⟩)
 · exact billS_no1 (fun h2 => h1 (okS_is h2))
theorem below_drewA {w w' : World} (h : Below w.drew.heap.size w.drew w') : Below w.heap.size w w' := (Below.refl _ _).drew.trans h
theorem fld2_any (b : Bl) (w : World) : Calls Tryz.prog 151 #[blV b] w fun e w' => e = .returned (.int .i64 b.tax) ∧ Below w.heap.size w w' := by
 go_enter Tryz.func151, Tryz.ntmps151
 go_wp2_with fail
 go_ret
 exact ⟨rfl, below_new _ _⟩
theorem fld3_any (b : Bl) (w : World) : Calls Tryz.prog 152 #[blV b] w fun e w' => e = .returned (.int .i64 b.prin) ∧ Below w.heap.size w w' := by
 go_enter Tryz.func152, Tryz.ntmps152
 go_wp2_with fail
 go_ret
 exact ⟨rfl, below_new _ _⟩
theorem fld4_any (b : Bl) (w : World) : Calls Tryz.prog 153 #[blV b] w fun e w' => e = .returned (.int .i64 b.pen) ∧ Below w.heap.size w w' := by
 go_enter Tryz.func153, Tryz.ntmps153
 go_wp2_with fail
 go_ret
 exact ⟨rfl, below_new _ _⟩
theorem fld5_any (b : Bl) (w : World) : Calls Tryz.prog 154 #[blV b] w fun e w' => e = .returned (.int .i64 b.exc) ∧ Below w.heap.size w w' := by
 go_enter Tryz.func154, Tryz.ntmps154
 go_wp2_with fail
 go_ret
 exact ⟨rfl, below_new _ _⟩
theorem more2_any (a b : Bl) (ga gb : Nat) (w : World) (hga : w.heap[ga]? = some (blO a.tax a.prin a.pen a.exc)) (hgb : w.heap[gb]? = some (blO b.tax b.prin b.pen b.exc)) (hbd : -9223372036854775808 ≤ b.tax - a.tax ∧ b.tax - a.tax ≤ 9223372036854775807) :
  Calls Tryz.prog 150 #[.func (.func 151) #[] #[], .pointer (some ⟨gb, 0, none⟩), .pointer (some ⟨ga, 0, none⟩)] w fun e w' => e = .returned (.int .i64 (b.tax - a.tax)) ∧ Below w.heap.size w w' := by
 obtain ⟨u0, u1, u2, u3, -⟩ := cells4B hga
 obtain ⟨v0, v1, v2, v3, -⟩ := cells4B hgb
 have zu := blk_lt hga; have zv := blk_lt hgb
 have HA := hyd (fun wx => fld2_any a wx); have HB := hyd (fun wx => fld2_any b wx)
 obtain ⟨VA, hVA⟩ : ∃ V, blV a = V := ⟨_, rfl⟩
 have hs : IntKind.i64.wrap (b.tax - a.tax) = b.tax - a.tax := IntWalk.i64_in _ hbd
 clear hga hgb hVA
 go_enter Tryz.func150, Tryz.ntmps150
 go_wp2_with fail
 go_region_held3 (fun w' => w'.cell? ⟨gb, 0, none⟩ = some (.int .i64 b.tax) ∧ w'.cell? ⟨gb, 1, none⟩ = some (.int .i64 b.prin) ∧ w'.cell? ⟨gb, 2, none⟩ = some (.int .i64 b.pen) ∧ w'.cell? ⟨gb, 3, none⟩ = some (.int .i64 b.exc) ∧ w'.cell? ⟨ga, 0, none⟩ = some (.int .i64 a.tax) ∧ w'.cell? ⟨ga, 1, none⟩ = some (.int .i64 a.prin) ∧ w'.cell? ⟨ga, 2, none⟩ = some (.int .i64 a.pen) ∧ w'.cell? ⟨ga, 3, none⟩ = some (.int .i64 a.exc))
  ((first | (with_reducible exact ⟨v0, v1, v2, v3, u0, u1, u2, u3⟩) | exact ⟨v0, v1, v2, v3, u0, u1, u2, u3⟩ | exact ⟨(hcB _ zv).trans v0, (hcB _ zv).trans v1, (hcB _ zv).trans v2, (hcB _ zv).trans v3, (hcB _ zu).trans u0, (hcB _ zu).trans u1, (hcB _ zu).trans u2, (hcB _ zu).trans u3⟩))
  ((go_at_call 151; first | ((with_reducible refine (HB.out _).mono ?_); rintro e wa ⟨rfl, hwa⟩; have HWA : Hid (Below w.heap.size w wa) := hyd (by first | exact hwa | exact below_drewA hwa); have hcB := fun (p : Addr) (hp : p.block < w.heap.size) => HWA.out.cell hp; clear hwa) | ((with_reducible refine (HA.out _).mono ?_); rintro e wb ⟨rfl, hwb⟩; have HWB : Hid (Below w.heap.size w wb) := hyd (HWA.out.trans (Below.mono (by first | exact hwb | exact below_drewA hwb) HWA.out.size)); have hcB := fun (p : Addr) (hp : p.block < w.heap.size) => HWB.out.cell hp; clear hwb)))
 all_goals go_wp2_with fail
 all_goals go_ret
 all_goals exact ⟨rfl, HWB.out⟩
theorem more3_any (a b : Bl) (ga gb : Nat) (w : World) (hga : w.heap[ga]? = some (blO a.tax a.prin a.pen a.exc)) (hgb : w.heap[gb]? = some (blO b.tax b.prin b.pen b.exc)) (hbd : -9223372036854775808 ≤ b.prin - a.prin ∧ b.prin - a.prin ≤ 9223372036854775807) :
  Calls Tryz.prog 150 #[.func (.func 152) #[] #[], .pointer (some ⟨gb, 0, none⟩), .pointer (some ⟨ga, 0, none⟩)] w fun e w' => e = .returned (.int .i64 (b.prin - a.prin)) ∧ Below w.heap.size w w' := by
 obtain ⟨u0, u1, u2, u3, -⟩ := cells4B hga
 obtain ⟨v0, v1, v2, v3, -⟩ := cells4B hgb
 have zu := blk_lt hga; have zv := blk_lt hgb
 have HA := hyd (fun wx => fld3_any a wx); have HB := hyd (fun wx => fld3_any b wx)
 obtain ⟨VA, hVA⟩ : ∃ V, blV a = V := ⟨_, rfl⟩
 have hs : IntKind.i64.wrap (b.prin - a.prin) = b.prin - a.prin := IntWalk.i64_in _ hbd
 clear hga hgb hVA
 go_enter Tryz.func150, Tryz.ntmps150
 go_wp2_with fail
 go_region_held3 (fun w' => w'.cell? ⟨gb, 0, none⟩ = some (.int .i64 b.tax) ∧ w'.cell? ⟨gb, 1, none⟩ = some (.int .i64 b.prin) ∧ w'.cell? ⟨gb, 2, none⟩ = some (.int .i64 b.pen) ∧ w'.cell? ⟨gb, 3, none⟩ = some (.int .i64 b.exc) ∧ w'.cell? ⟨ga, 0, none⟩ = some (.int .i64 a.tax) ∧ w'.cell? ⟨ga, 1, none⟩ = some (.int .i64 a.prin) ∧ w'.cell? ⟨ga, 2, none⟩ = some (.int .i64 a.pen) ∧ w'.cell? ⟨ga, 3, none⟩ = some (.int .i64 a.exc))
  ((first | (with_reducible exact ⟨v0, v1, v2, v3, u0, u1, u2, u3⟩) | exact ⟨v0, v1, v2, v3, u0, u1, u2, u3⟩ | exact ⟨(hcB _ zv).trans v0, (hcB _ zv).trans v1, (hcB _ zv).trans v2, (hcB _ zv).trans v3, (hcB _ zu).trans u0, (hcB _ zu).trans u1, (hcB _ zu).trans u2, (hcB _ zu).trans u3⟩))
  ((go_at_call 152; first | ((with_reducible refine (HB.out _).mono ?_); rintro e wa ⟨rfl, hwa⟩; have HWA : Hid (Below w.heap.size w wa) := hyd (by first | exact hwa | exact below_drewA hwa); have hcB := fun (p : Addr) (hp : p.block < w.heap.size) => HWA.out.cell hp; clear hwa) | ((with_reducible refine (HA.out _).mono ?_); rintro e wb ⟨rfl, hwb⟩; have HWB : Hid (Below w.heap.size w wb) := hyd (HWA.out.trans (Below.mono (by first | exact hwb | exact below_drewA hwb) HWA.out.size)); have hcB := fun (p : Addr) (hp : p.block < w.heap.size) => HWB.out.cell hp; clear hwb)))
 all_goals go_wp2_with fail
 all_goals go_ret
 all_goals exact ⟨rfl, HWB.out⟩
theorem more4_any (a b : Bl) (ga gb : Nat) (w : World) (hga : w.heap[ga]? = some (blO a.tax a.prin a.pen a.exc)) (hgb : w.heap[gb]? = some (blO b.tax b.prin b.pen b.exc)) (hbd : -9223372036854775808 ≤ b.pen - a.pen ∧ b.pen - a.pen ≤ 9223372036854775807) :
  Calls Tryz.prog 150 #[.func (.func 153) #[] #[], .pointer (some ⟨gb, 0, none⟩), .pointer (some ⟨ga, 0, none⟩)] w fun e w' => e = .returned (.int .i64 (b.pen - a.pen)) ∧ Below w.heap.size w w' := by
 obtain ⟨u0, u1, u2, u3, -⟩ := cells4B hga
 obtain ⟨v0, v1, v2, v3, -⟩ := cells4B hgb
 have zu := blk_lt hga; have zv := blk_lt hgb
 have HA := hyd (fun wx => fld4_any a wx); have HB := hyd (fun wx => fld4_any b wx)
 obtain ⟨VA, hVA⟩ : ∃ V, blV a = V := ⟨_, rfl⟩
 have hs : IntKind.i64.wrap (b.pen - a.pen) = b.pen - a.pen := IntWalk.i64_in _ hbd
 clear hga hgb hVA
 go_enter Tryz.func150, Tryz.ntmps150
 go_wp2_with fail
 go_region_held3 (fun w' => w'.cell? ⟨gb, 0, none⟩ = some (.int .i64 b.tax) ∧ w'.cell? ⟨gb, 1, none⟩ = some (.int .i64 b.prin) ∧ w'.cell? ⟨gb, 2, none⟩ = some (.int .i64 b.pen) ∧ w'.cell? ⟨gb, 3, none⟩ = some (.int .i64 b.exc) ∧ w'.cell? ⟨ga, 0, none⟩ = some (.int .i64 a.tax) ∧ w'.cell? ⟨ga, 1, none⟩ = some (.int .i64 a.prin) ∧ w'.cell? ⟨ga, 2, none⟩ = some (.int .i64 a.pen) ∧ w'.cell? ⟨ga, 3, none⟩ = some (.int .i64 a.exc))
  ((first | (with_reducible exact ⟨v0, v1, v2, v3, u0, u1, u2, u3⟩) | exact ⟨v0, v1, v2, v3, u0, u1, u2, u3⟩ | exact ⟨(hcB _ zv).trans v0, (hcB _ zv).trans v1, (hcB _ zv).trans v2, (hcB _ zv).trans v3, (hcB _ zu).trans u0, (hcB _ zu).trans u1, (hcB _ zu).trans u2, (hcB _ zu).trans u3⟩))
  ((go_at_call 153; first | ((with_reducible refine (HB.out _).mono ?_); rintro e wa ⟨rfl, hwa⟩; have HWA : Hid (Below w.heap.size w wa) := hyd (by first | exact hwa | exact below_drewA hwa); have hcB := fun (p : Addr) (hp : p.block < w.heap.size) => HWA.out.cell hp; clear hwa) | ((with_reducible refine (HA.out _).mono ?_); rintro e wb ⟨rfl, hwb⟩; have HWB : Hid (Below w.heap.size w wb) := hyd (HWA.out.trans (Below.mono (by first | exact hwb | exact below_drewA hwb) HWA.out.size)); have hcB := fun (p : Addr) (hp : p.block < w.heap.size) => HWB.out.cell hp; clear hwb)))
 all_goals go_wp2_with fail
 all_goals go_ret
 all_goals exact ⟨rfl, HWB.out⟩
theorem more5_any (a b : Bl) (ga gb : Nat) (w : World) (hga : w.heap[ga]? = some (blO a.tax a.prin a.pen a.exc)) (hgb : w.heap[gb]? = some (blO b.tax b.prin b.pen b.exc)) (hbd : -9223372036854775808 ≤ b.exc - a.exc ∧ b.exc - a.exc ≤ 9223372036854775807) :
  Calls Tryz.prog 150 #[.func (.func 154) #[] #[], .pointer (some ⟨gb, 0, none⟩), .pointer (some ⟨ga, 0, none⟩)] w fun e w' => e = .returned (.int .i64 (b.exc - a.exc)) ∧ Below w.heap.size w w' := by
 obtain ⟨u0, u1, u2, u3, -⟩ := cells4B hga
 obtain ⟨v0, v1, v2, v3, -⟩ := cells4B hgb
 have zu := blk_lt hga; have zv := blk_lt hgb
 have HA := hyd (fun wx => fld5_any a wx); have HB := hyd (fun wx => fld5_any b wx)
 obtain ⟨VA, hVA⟩ : ∃ V, blV a = V := ⟨_, rfl⟩
 have hs : IntKind.i64.wrap (b.exc - a.exc) = b.exc - a.exc := IntWalk.i64_in _ hbd
 clear hga hgb hVA
 go_enter Tryz.func150, Tryz.ntmps150
 go_wp2_with fail
 go_region_held3 (fun w' => w'.cell? ⟨gb, 0, none⟩ = some (.int .i64 b.tax) ∧ w'.cell? ⟨gb, 1, none⟩ = some (.int .i64 b.prin) ∧ w'.cell? ⟨gb, 2, none⟩ = some (.int .i64 b.pen) ∧ w'.cell? ⟨gb, 3, none⟩ = some (.int .i64 b.exc) ∧ w'.cell? ⟨ga, 0, none⟩ = some (.int .i64 a.tax) ∧ w'.cell? ⟨ga, 1, none⟩ = some (.int .i64 a.prin) ∧ w'.cell? ⟨ga, 2, none⟩ = some (.int .i64 a.pen) ∧ w'.cell? ⟨ga, 3, none⟩ = some (.int .i64 a.exc))
  ((first | (with_reducible exact ⟨v0, v1, v2, v3, u0, u1, u2, u3⟩) | exact ⟨v0, v1, v2, v3, u0, u1, u2, u3⟩ | exact ⟨(hcB _ zv).trans v0, (hcB _ zv).trans v1, (hcB _ zv).trans v2, (hcB _ zv).trans v3, (hcB _ zu).trans u0, (hcB _ zu).trans u1, (hcB _ zu).trans u2, (hcB _ zu).trans u3⟩))
  ((go_at_call 154; first | ((with_reducible refine (HB.out _).mono ?_); rintro e wa ⟨rfl, hwa⟩; have HWA : Hid (Below w.heap.size w wa) := hyd (by first | exact hwa | exact below_drewA hwa); have hcB := fun (p : Addr) (hp : p.block < w.heap.size) => HWA.out.cell hp; clear hwa) | ((with_reducible refine (HA.out _).mono ?_); rintro e wb ⟨rfl, hwb⟩; have HWB : Hid (Below w.heap.size w wb) := hyd (HWA.out.trans (Below.mono (by first | exact hwb | exact below_drewA hwb) HWA.out.size)); have hcB := fun (p : Addr) (hp : p.block < w.heap.size) => HWB.out.cell hp; clear hwb)))
 all_goals go_wp2_with fail
 all_goals go_ret
 all_goals exact ⟨rfl, HWB.out⟩
theorem ChBox.drew {w W : World} {A : Option Addr} {n c : Nat} {s : Sch} {a f : Ret} (h : ChBox w W A n c s a f) : ChBox w W.drew A n c s a f := ⟨h.b0, h.b1, h.b2, h.b3, h.bel.drew⟩
theorem change_any (A : Option Addr) (n c : Nat) (s : Sch) (a f : Ret) (w : World) (hn : s.bs.length = n) (hr : Rd w w.heap.size 2 A n (brCs s.bs)) :
  Calls Tryz.prog 115 #[schV A n c s, retV a, retV f] w fun e w' => e = .returned (blR (changeS s a f)) ∧ Below w.heap.size w w' := by
 have hbx := ChBox.start w A n c s a f
 have HRD := hyd ((hr.below hbx.bel).wider hbx.bel.size)
 have hz0 : w.heap.size + 3 < ((((w.alloc (schO A n c s)).alloc (retO a 37)).alloc (retO f 37)).alloc (blO 0 0 0 0)).heap.size := by simp
 have HBX := hyd hbx
 have hba := fun wx h => bill_any A n c s a wx hn h
 have HBM := hyd (fun wx h => bill_any A n c s (a.moved f) wx hn h)
 have HRF := hyd (fun wx => aright_any f wx)
 obtain ⟨ba, ea⟩ : ∃ p, billS s a = p := ⟨_, rfl⟩
 rw [ea] at hba
 have HEA := hyd ea
 obtain ⟨⟨a0, a1, a2, a3⟩, ae⟩ := ba
 have HBA := hyd hba
 have HR0 := hyd hr
 clear hr hbx ea hba
 go_enter Tryz.func115, Tryz.ntmps115
 go_wp2_with fail
 generalize (((w.alloc (schO A n c s)).alloc (retO a 37)).alloc (retO f 37)).alloc (blO 0 0 0 0) = W at *
 refine (HBA.out W HRD.out).mono ?_; rintro e w1 ⟨rfl, hw1⟩
 have hb1 := HBX.out.up hw1
 have HX1 := hyd hb1
 have HB1 := hyd (hb1.up (below_new w1 (blO a0 a1 a2 a3)))
 have hg1 := heap_alloc_new w1 (blO a0 a1 a2 a3)
 have hz1 : w.heap.size + 3 < w1.heap.size := blk_lt hb1.b3
 have hz10 : w.heap.size < w1.heap.size := by omega
 have hz11 : w.heap.size + 1 < w1.heap.size := by omega
 have hz12 : w.heap.size + 1 + 1 < w1.heap.size := by omega
 have hz13 : w.heap.size + 1 + 1 + 1 < w1.heap.size := by omega
 obtain ⟨p0, p1, p2, p3, p4⟩ := cells5B (g := w.heap.size + 1 + 1) hb1.b2
 obtain ⟨o0, o1, o2, o3, o4⟩ := cells4B (g := w.heap.size + 1 + 1 + 1) hb1.b3
 clear hb1 hw1
 by_cases hA : okS s = true ∧ retB a = true
 · obtain ⟨hok, hra⟩ := hA
   have HOK := hyd (okS_yes hok)
   have hea := HEA.out
   rw [billS_yes HOK.out hra] at hea
   obtain ⟨ea1, rfl⟩ := Prod.mk.inj hea
   have HVA : Hid (billV s a = ⟨a0, a1, a2, a3⟩) := ea1
   clear hea ea1
   go_wp2_with fail
   obtain ⟨ga, hga⟩ : ∃ ga, ga = w1.heap.size := ⟨_, rfl⟩
   rw [← hga] at hg1 hz1 ⊢
   generalize w1.alloc (blO a0 a1 a2 a3) = W1 at *
   have HG1 := hyd hg1
   have hgz : w.heap.size + 1 + 1 ≠ ga := by omega
   clear hga hg1 hz10 hz11 hz12 hz13 p0 p1 p2 p3 p4 o0 o1 o2 o3 o4
   refine (HRF.out W1).mono ?_; rintro e w2 ⟨rfl, hw2⟩
   have HB2 := hyd (HB1.out.up hw2)
   have HG2 := hyd (blk_below HG1.out hw2 (blk_lt HG1.out))
   clear hw2
   obtain ⟨q0, q1, q2, q3, q4⟩ := cells5B HB2.out.b1
   obtain ⟨p0, p1, p2, p3, p4⟩ := cells5B (g := w.heap.size + 1 + 1) HB2.out.b2
   by_cases hF : retB f = true
   · rw [hF]
     by_cases hO : a.per ≠ f.per ∨ f.filed < a.filed
     · have HC := hyd (change_ord hok hra hF hO)
       obtain ⟨o0, o1, o2, o3, o4⟩ := cells4B (g := w.heap.size + 1 + 1 + 1) HB2.out.b3
       by_cases hp : a.per = f.per
       · have hfl : f.filed < a.filed := by rcases hO with h | h; exact absurd hp h; exact h
         have hpp : (a.per != f.per) = false := by simpa using hp
         clear hO hp
         go_wp2_with fail
         refine bodyPost_ret (results_row_tmpB rfl _ _ (w.heap.size + 1 + 1 + 1) 85 #[.int .i64 0, .int .i64 0, .int .i64 0, .int .i64 0] (0, 0) _ (by rfl) (set4_blkB (g := w.heap.size + 1 + 1 + 1) HB2.out.b3 _ _ _ _) Tryz.underlying85 rfl (by kernel_rfl)) rfl ?_
         exact ⟨by rw [HC.out]; rfl, below_set4 (g := w.heap.size + 1 + 1 + 1) HB2.out.bel (by omega) _ _ _ _⟩
       · have hpp : (a.per != f.per) = true := by simpa using hp
         clear hO
         go_wp2_with fail
         refine bodyPost_ret (results_row_tmpB rfl _ _ (w.heap.size + 1 + 1 + 1) 85 #[.int .i64 0, .int .i64 0, .int .i64 0, .int .i64 0] (0, 0) _ (by rfl) (set4_blkB (g := w.heap.size + 1 + 1 + 1) HB2.out.b3 _ _ _ _) Tryz.underlying85 rfl (by kernel_rfl)) rfl ?_
         exact ⟨by rw [HC.out]; rfl, below_set4 (g := w.heap.size + 1 + 1 + 1) HB2.out.bel (by omega) _ _ _ _⟩
     · have HC := hyd (change_yes hok hra hF hO)
       have hp : a.per = f.per := Classical.byContradiction fun h => hO (.inl h)
       have hfl : ¬ f.filed < a.filed := fun h => hO (.inr h)
       have hpp : (a.per != f.per) = false := by simpa using hp
       have hm := retB_moved hra hF
       have HBD := hyd (bill_bd HOK.out hra); have HBDM := hyd (bill_bd (r := a.moved f) HOK.out hm)
       have em : billS s (a.moved f) = (billV s (a.moved f), 0) := billS_yes HOK.out hm
       rw [em] at HBM
       obtain ⟨bm, hbm2⟩ : ∃ b, billV s (a.moved f) = b := ⟨_, rfl⟩
       rw [hbm2] at HBM HC HBDM
       rw [HVA.out] at HC HBD
       obtain ⟨b0, b1, b2, b3⟩ := bm
       have hfr := fun k => blk_free HB2.out.b2 k
       clear hO hp em hbm2 hm
       go_upto_region 6 with fail
       go_cut [9] from 39 to 44 (fun v9 wx => v9 = .int .i64 0 ∧ ChBox w wx A n c s a (a.moved f) ∧ wx.heap[ga]? = some (blO a0 a1 a2 a3))
       case first =>
        go_region_with (fail)
        all_goals go_wp2_with fail
        all_goals go_meet
        all_goals first
         | exact ⟨rfl, HB2.out.move.drew, blk_far (p := ⟨w.heap.size + 1 + 1, 2, none⟩) (blk_far (p := ⟨w.heap.size + 1 + 1, 1, none⟩) HG2.out (Ne.symm hgz) _) (Ne.symm hgz) _⟩
         | exact ⟨rfl, HB2.out.move'.drew, blk_far (p := ⟨w.heap.size + 1 + 1, 1, none⟩) (blk_far (p := ⟨w.heap.size + 1 + 1, 2, none⟩) HG2.out (Ne.symm hgz) _) (Ne.symm hgz) _⟩
       case rest =>
        obtain ⟨rfl, hb3, hga3⟩ := hcut
        have hr3 := (HR0.out.below hb3.bel).wider hb3.bel.size
        have HB3 := hyd hb3; have HGA3 := hyd hga3; have HR3 := hyd hr3
        clear hfr q0 q1 q2 q3 q4 p0 p1 p2 p3 p4
        obtain ⟨t0, t1, t2, t3, t4, t5⟩ := cells6 hb3.b0
        obtain ⟨r0, r1, r2, r3, r4⟩ := cells5B (g := w.heap.size + 1 + 1) hb3.b2
        clear hb3 hga3 hr3
        go_wp2_with fail
        refine (HBM.out wc HR3.out).mono ?_; rintro e w4 ⟨rfl, hw4⟩
        have hb4 := HB3.out.up hw4
        have HB4 := hyd (hb4.up (below_new w4 (blO b0 b1 b2 b3)))
        have HGA4 := hyd (blk_alloc (blk_below HGA3.out hw4 (blk_lt HGA3.out)) (blO b0 b1 b2 b3))
        have hgb := heap_alloc_new w4 (blO b0 b1 b2 b3)
        obtain ⟨gb, hgbe⟩ : ∃ gb, gb = w4.heap.size := ⟨_, rfl⟩
        obtain ⟨⟨y1, y2⟩, ⟨y3, y4⟩, ⟨y5, y6⟩, ⟨y7, y8⟩, -, -⟩ : (0 ≤ a0 ∧ a0 ≤ 1125899906842624) ∧ (0 ≤ a1 ∧ a1 ≤ 1125899906842624) ∧ (0 ≤ a2 ∧ a2 ≤ a1) ∧ (0 ≤ a3 ∧ a3 ≤ 1125899906842624) ∧ (a1 = 0 ∨ a3 = 0) ∧ a0 = a1 + a.wh - a3 := HBD.out
        obtain ⟨⟨m1, m2⟩, ⟨m3, m4⟩, ⟨m5, m6⟩, ⟨m7, m8⟩, -, -⟩ : (0 ≤ b0 ∧ b0 ≤ 1125899906842624) ∧ (0 ≤ b1 ∧ b1 ≤ 1125899906842624) ∧ (0 ≤ b2 ∧ b2 ≤ b1) ∧ (0 ≤ b3 ∧ b3 ≤ 1125899906842624) ∧ (b1 = 0 ∨ b3 = 0) ∧ b0 = b1 + (a.moved f).wh - b3 := HBDM.out
        have M2 := hyd (fun wx h h' => more2_any ⟨a0, a1, a2, a3⟩ ⟨b0, b1, b2, b3⟩ ga gb wx h h' (by show _ ≤ b0 - a0 ∧ b0 - a0 ≤ _; omega))
        have M3 := hyd (fun wx h h' => more3_any ⟨a0, a1, a2, a3⟩ ⟨b0, b1, b2, b3⟩ ga gb wx h h' (by show _ ≤ b1 - a1 ∧ b1 - a1 ≤ _; omega))
        have M4 := hyd (fun wx h h' => more4_any ⟨a0, a1, a2, a3⟩ ⟨b0, b1, b2, b3⟩ ga gb wx h h' (by show _ ≤ b2 - a2 ∧ b2 - a2 ≤ _; omega))
        have M5 := hyd (fun wx h h' => more5_any ⟨a0, a1, a2, a3⟩ ⟨b0, b1, b2, b3⟩ ga gb wx h h' (by show _ ≤ b3 - a3 ∧ b3 - a3 ≤ _; omega))
        clear hw4 hb4 t0 t1 t2 t3 t4 t5 r0 r1 r2 r3 r4 hgz
        go_wp2_with fail
        rw [← hgbe] at hgb ⊢
        generalize w4.alloc (blO b0 b1 b2 b3) = W4 at *
        have HGB4 := hyd hgb
        clear hgb hgbe
        refine (M2.out W4 HGA4.out HGB4.out).mono ?_; rintro e w5 ⟨rfl, hw5⟩
        have HB5 := hyd (HB4.out.up hw5)
        have HGA5 := hyd (blk_below HGA4.out hw5 (blk_lt HGA4.out)); have HGB5 := hyd (blk_below HGB4.out hw5 (blk_lt HGB4.out))
        clear hw5
        go_wp2_with fail
        refine (M3.out w5 HGA5.out HGB5.out).mono ?_; rintro e w6 ⟨rfl, hw6⟩
        have HB6 := hyd (HB5.out.up hw6)
        have HGA6 := hyd (blk_below HGA5.out hw6 (blk_lt HGA5.out)); have HGB6 := hyd (blk_below HGB5.out hw6 (blk_lt HGB5.out))
        clear hw6
        go_wp2_with fail
        refine (M4.out w6 HGA6.out HGB6.out).mono ?_; rintro e w7 ⟨rfl, hw7⟩
        have HB7 := hyd (HB6.out.up hw7)
        have HGA7 := hyd (blk_below HGA6.out hw7 (blk_lt HGA6.out)); have HGB7 := hyd (blk_below HGB6.out hw7 (blk_lt HGB6.out))
        clear hw7
        go_wp2_with fail
        refine (M5.out w7 HGA7.out HGB7.out).mono ?_; rintro e w8 ⟨rfl, hw8⟩
        have HB8 := hyd (HB7.out.up hw8)
        clear hw8
        obtain ⟨o0, o1, o2, o3, o4⟩ := cells4B (g := w.heap.size + 1 + 1 + 1) HB8.out.b3
        go_wp2_with fail
        refine bodyPost_ret (results_row_tmpB rfl _ _ (w.heap.size + 1 + 1 + 1) 85 #[.int .i64 (b0 - a0), .int .i64 (b1 - a1), .int .i64 (b2 - a2), .int .i64 (b3 - a3)] (0, 0) _ (by rfl) (set4_blkB (g := w.heap.size + 1 + 1 + 1) HB8.out.b3 _ _ _ _) Tryz.underlying85 rfl (by kernel_rfl)) rfl ?_
        exact ⟨by rw [HC.out]; rfl, below_set4 (g := w.heap.size + 1 + 1 + 1) HB8.out.bel (by omega) _ _ _ _⟩
   · have HC := hyd (change_no2 (s := s) (a := a) hF)
     rw [Bool.eq_false_iff.2 hF]
     obtain ⟨o0, o1, o2, o3, o4⟩ := cells4B (g := w.heap.size + 1 + 1 + 1) HB2.out.b3
     go_wp2_with fail
     refine bodyPost_ret (results_row_tmpB rfl _ _ (w.heap.size + 1 + 1 + 1) 85 #[.int .i64 0, .int .i64 0, .int .i64 0, .int .i64 0] (0, 0) _ (by rfl) (set4_blkB (g := w.heap.size + 1 + 1 + 1) HB2.out.b3 _ _ _ _) Tryz.underlying85 rfl (by kernel_rfl)) rfl ?_
     exact ⟨by rw [HC.out]; rfl, below_set4 (g := w.heap.size + 1 + 1 + 1) HB2.out.bel (by omega) _ _ _ _⟩
 · have hea := HEA.out
   rw [billS_err hA] at hea
   obtain ⟨_, rfl⟩ := Prod.mk.inj hea
   have HC := hyd (change_no1 (s := s) (a := a) (b := f) hA)
   clear hea
   go_wp2_with fail
   refine bodyPost_ret (results_row_tmpB rfl _ _ (w.heap.size + 1 + 1 + 1) 85 #[.int .i64 0, .int .i64 0, .int .i64 0, .int .i64 0] (0, 0) _ (by rfl) (blk_alloc (set4_blkB (g := w.heap.size + 1 + 1 + 1) HX1.out.b3 _ _ _ _) _) Tryz.underlying85 rfl (by kernel_rfl)) rfl ?_
   have hbs := below_set4 (g := w.heap.size + 1 + 1 + 1) HX1.out.bel (by omega) (.int .i64 0) (.int .i64 0) (.int .i64 0) (.int .i64 0)
   exact ⟨by rw [HC.out]; rfl, hbs.alloc hbs.size _⟩
end Go.Proofs.YtbjjgnaojoaoiaaGreat
