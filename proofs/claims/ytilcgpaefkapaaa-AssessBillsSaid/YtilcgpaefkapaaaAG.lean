/- The walk of AssessBills. -/
import Derived.Test.YtilcgpaefkapaaaAS
import Derived.Test.YtilcgpaefkapaaaAC
namespace Go.Proofs.Ytilcgpaefkapaaa
open Go.RowKit Go
set_option linter.unusedVariables false
set_option linter.unusedSimpArgs false

theorem below_drewG {w w' : World} (h : Below w.drew.heap.size w.drew w') : Below w.heap.size w w' := (Below.refl _ _).drew.trans h
set_option maxHeartbeats 3200000 in
set_option maxRecDepth 100000 in
theorem assessBills_walk (A : Option Addr) (n c : Nat) (s : Sch) (r : Ret) (w : World) (hn : s.bs.length = n) (hr : Rd w w.heap.size 2 A n (brCs s.bs)) :
    Calls Try.prog 4 #[schV A n c s, retV r] w fun e w' => e = .returned (.bool true) ∧ Below w.heap.size w w' := by
  have hbx := Box2.start w A n c s r
  have HRD := Lib.hid ((hr.below hbx.bel).wider hbx.bel.size)
  have HBX := Lib.hid hbx
  have hbl := fun wx h => bill_any A n c s r wx hn h
  have hrbl := fun wx h => rbill_any A n c s r wx hn h
  obtain ⟨b, hb⟩ : ∃ b, billS s r = b := ⟨_, rfl⟩
  rw [hb] at hbl hrbl
  obtain ⟨⟨t, p, pe, x⟩, e0⟩ := b
  have HBL := Lib.hid hbl; have HRB := Lib.hid hrbl
  have HN := Lib.hid hn
  clear hr hbx hn hb hbl hrbl
  go_enter Try.func4, Try.ntmps4
  go_wp2_with fail
  generalize (w.alloc (schO A n c s)).alloc (retO r 31) = W at *
  refine (awake_any W).mono ?_; rintro e w1 ⟨rfl, hw1⟩
  have HB1 := Lib.hid (HBX.out.up hw1)
  have HR1 := Lib.hid ((HRD.out.below hw1).wider hw1.size)
  obtain ⟨s0, s1, s2, s3, s4, s5⟩ := cells6 HB1.out.b0
  obtain ⟨q0, q1, q2, q3, q4⟩ := cells5B HB1.out.b1
  clear hw1
  by_cases hn1 : n ≤ 1000
  · go_wp2_with fail
    refine (HBL.out w1 HR1.out).mono ?_; rintro e w2 ⟨rfl, hw2⟩
    have hb2 := HB1.out.up hw2
    have hr2 := (HR1.out.below hw2).wider hw2.size
    clear hw2 s0 s1 s2 s3 s4 s5 q0 q1 q2 q3 q4
    obtain ⟨s0, s1, s2, s3, s4, s5⟩ := cells6 hb2.b0
    obtain ⟨q0, q1, q2, q3, q4⟩ := cells5B hb2.b1
    have hz20 := blk_lt hb2.b0; have hz21 := blk_lt hb2.b1
    have HB2 := Lib.hid (hb2.up (below_new w2 (blO t p pe x)))
    have HR2 := Lib.hid ((hr2.below (below_new w2 (blO t p pe x))).wider (below_new w2 (blO t p pe x)).size)
    have hga := heap_alloc_new w2 (blO t p pe x)
    clear hb2 hr2
    go_wp2_with fail
    obtain ⟨ga, hgae⟩ : ∃ ga, ga = w2.heap.size := ⟨_, rfl⟩
    rw [← hgae] at hga ⊢
    generalize w2.alloc (blO t p pe x) = W2 at *
    have HGA := Lib.hid hga
    clear hga hgae hz20 hz21 s0 s1 s2 s3 s4 s5 q0 q1 q2 q3 q4
    refine (HRB.out W2 HR2.out).mono ?_; rintro e w3 ⟨rfl, hw3⟩
    have hb3 := HB2.out.up hw3
    have hga3 := blk_below HGA.out hw3 (blk_lt HGA.out)
    have hz31 := blk_lt hb3.b1; have hz32 := blk_lt hga3
    have HB3 := Lib.hid (hb3.up (below_new w3 (blO t p pe x)))
    have hgb := heap_alloc_new w3 (blO t p pe x)
    have hga4 := blk_alloc hga3 (blO t p pe x)
    obtain ⟨gb, hgbe⟩ : ∃ gb, gb = w3.heap.size := ⟨_, rfl⟩
    clear hw3 hb3 hga3
    have g1 : (t == t) = true := by simp
    have g2 : (p == p) = true := by simp
    have g3 : (pe == pe) = true := by simp
    have g4 : (x == x) = true := by simp
    have g5 : (e0 == e0) = true := by simp
    have g6 : (retB r == retB r) = true := by simp
    obtain ⟨d, hd⟩ : ∃ d, retB r = d := ⟨_, rfl⟩
    have a1 := fun wx => aright_any r wx
    have a2 := fun wx => rretright_any r wx
    rw [hd] at a1 a2 g6
    have HA1 := Lib.hid a1; have HA2 := Lib.hid a2
    clear a1 a2 hd
    go_upto_region 6 with fail
    rw [← hgbe] at hgb ⊢
    generalize w3.alloc (blO t p pe x) = W3 at *
    have HGB := Lib.hid hgbe
    clear hgbe
    obtain ⟨u0, u1, u2, u3, -⟩ := cells4B hga4
    obtain ⟨v0, v1, v2, v3, -⟩ := cells4B hgb
    obtain ⟨q0, q1, q2, q3, q4⟩ := cells5B HB3.out.b1
    have zq := blk_lt HB3.out.b1; have zu := blk_lt hga4; have zv := blk_lt hgb
    clear hga4 hgb hz31 hz32
    go_region_held3 (fun w' => w'.cell? ⟨ga, 0, none⟩ = some (.int .i64 t) ∧ w'.cell? ⟨ga, 1, none⟩ = some (.int .i64 p) ∧ w'.cell? ⟨ga, 2, none⟩ = some (.int .i64 pe) ∧ w'.cell? ⟨ga, 3, none⟩ = some (.int .i64 x) ∧
        w'.cell? ⟨gb, 0, none⟩ = some (.int .i64 t) ∧ w'.cell? ⟨gb, 1, none⟩ = some (.int .i64 p) ∧ w'.cell? ⟨gb, 2, none⟩ = some (.int .i64 pe) ∧ w'.cell? ⟨gb, 3, none⟩ = some (.int .i64 x) ∧
        w'.cell? ⟨w.heap.size + 1, 0, none⟩ = some (.int .i64 r.per) ∧ w'.cell? ⟨w.heap.size + 1, 1, none⟩ = some (.int .i64 r.due) ∧ w'.cell? ⟨w.heap.size + 1, 2, none⟩ = some (.int .i64 r.filed) ∧ w'.cell? ⟨w.heap.size + 1, 3, none⟩ = some (.int .i64 r.inc) ∧ w'.cell? ⟨w.heap.size + 1, 4, none⟩ = some (.int .i64 r.wh))
      ((first | (with_reducible exact ⟨u0, u1, u2, u3, v0, v1, v2, v3, q0, q1, q2, q3, q4⟩) | exact ⟨u0, u1, u2, u3, v0, v1, v2, v3, q0, q1, q2, q3, q4⟩ | exact ⟨(hcB _ zu).trans u0, (hcB _ zu).trans u1, (hcB _ zu).trans u2, (hcB _ zu).trans u3, (hcB _ zv).trans v0, (hcB _ zv).trans v1, (hcB _ zv).trans v2, (hcB _ zv).trans v3, (hcB _ zq).trans q0, (hcB _ zq).trans q1, (hcB _ zq).trans q2, (hcB _ zq).trans q3, (hcB _ zq).trans q4⟩))
      ((first
        | (go_at_call 14; refine (HA1.out _).mono ?_; rintro e wa ⟨rfl, hwa⟩; have HWA : Hid (Below W3.heap.size W3 wa) := Lib.hid (by first | exact hwa | exact below_drewG hwa); have hcB := fun (a : Addr) (hp : a.block < W3.heap.size) => HWA.out.cell hp; clear hwa)
        | (go_at_call 15; refine (HA2.out _).mono ?_; rintro e wb ⟨rfl, hwb⟩; have HWB : Hid (Below W3.heap.size W3 wb) := Lib.hid (HWA.out.trans (Below.mono (by first | exact hwb | exact below_drewG hwb) HWA.out.size)); have hcB := fun (a : Addr) (hp : a.block < W3.heap.size) => HWB.out.cell hp; clear hwb)))
    all_goals go_wp2_with fail
    all_goals go_ret
    all_goals exact ⟨ret_bool (by simp), HB3.out.bel.trans (HWB.out.mono HB3.out.bel.size)⟩
  · go_wp2_with fail
    go_ret
    exact ⟨rfl, HB1.out.bel⟩
end Go.Proofs.Ytilcgpaefkapaaa
