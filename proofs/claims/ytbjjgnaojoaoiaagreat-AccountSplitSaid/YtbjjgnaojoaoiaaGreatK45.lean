/- Flat; awake; Credit, which leaves all as it is. -/
import Derived.Test.YtbjjgnaojoaoiaaGreatK44
import Derived.Test.YtbjjgnaojoaoiaaGreatK34
namespace Go.Proofs.YtbjjgnaojoaoiaaGreat
open Go.RowKit Go
set_option linter.unusedVariables false
set_option linter.unusedSimpArgs false

theorem results_row_1 {P : Program} {fn : Func} {p : Tmp} {ty : TypeId} (h : fn.results = #[.cell p ty]) (tmps : Array Value) (w : World) (g : Nat) (t : TypeId) (cs : Array Value) (fr : Nat × Nat) (d : TypeDesc)
    (hp : tmps.getD p undef = .pointer (some ⟨g, 0, none⟩)) (hg : w.heap[g]? = some (.cells cs t fr))
    (hu : P.underlying ty = some d) (hd : (match d with | .struct _ | .array _ _ => true | _ => false) = true) (hi : (P.info? ty).map (·.size) = some cs.size) :
    (results fn tmps).run P w = .ok (.agg cs) w := by
  have hp' : tmps[p]?.getD undef = .pointer (some ⟨g, 0, none⟩) := by simpa using hp
  simp [results, h, hp', asAddr, run_loadVar_row w g t ty cs fr d hg hu hd hi]
theorem set6_blk {w : World} {v0 v1 v2 v3 v4 v5 : Value} {t g : Nat} (h : w.heap[g]? = some (.cells #[v0, v1, v2, v3, v4, v5] t (0, 0))) (u0 u1 u2 u3 u4 u5 : Value) :
    ((((((w.setCell ⟨g, 0, none⟩ u0).setCell ⟨g, 1, none⟩ u1).setCell ⟨g, 2, none⟩ u2).setCell ⟨g, 3, none⟩ u3).setCell ⟨g, 4, none⟩ u4).setCell ⟨g, 5, none⟩ u5).heap[g]? = some (.cells #[u0, u1, u2, u3, u4, u5] t (0, 0)) := by
  have a0 := blk_set h 0 u0
  have a1 := blk_set a0 1 u1
  have a2 := blk_set a1 2 u2
  have a3 := blk_set a2 3 u3
  have a4 := blk_set a3 4 u4
  have a5 := blk_set a4 5 u5
  exact a5
theorem credit_eq (g B : Nat) (S : Ac) (w : World) (h : OwnAt w B g S) : Calls Tryz.prog 12 #[.pointer (some ⟨g, 0, none⟩)] w fun e w' => e = .returned (.int .i64 S.cr) ∧ w' = w := by
  obtain ⟨vp, vq, hg⟩ := h.cell
  obtain ⟨a0, a1, a2, a3, a4, a5⟩ := cells5U hg
  have hgl := blk_lt hg
  clear h hg
  go_enter Tryz.func12, Tryz.ntmps12
  go_wp2_with fail
  go_ret
  exact ⟨rfl, rfl⟩
/-- What Flat hands back. -/
def FlatOf (w : World) (e : Ending) (w' : World) : Prop := ∃ A c, e = .returned (schV A 1 c flatS) ∧ Rd w' w'.heap.size 2 A 1 (brCs flatS.bs) ∧ Below w.heap.size w w'
set_option maxHeartbeats 3200000 in
set_option maxRecDepth 100000 in
theorem flat_any (w : World) : Calls Tryz.prog 54 #[.int .i64 1000] w (FlatOf w) := by
  have hb0 : Below w.heap.size w (((w.alloc (.cells #[.slice none 0 0, .int .i64 0, .int .i64 0, .int .i64 0, .int .i64 0, .int .i64 0] 24)).alloc (.cells #[.int .i64 0, .int .i64 1000] 160)).alloc (.cells #[.slice (some ⟨w.heap.size + 1, 0, none⟩) 1 1, .int .i64 0, .int .i64 0, .int .i64 500, .int .i64 5, .int .i64 10] 24)) := (((Below.refl _ _).alloc (Nat.le_refl _) _).alloc (by simp) _).alloc (by simp; omega) _
  have hr0 : (((w.alloc (.cells #[.slice none 0 0, .int .i64 0, .int .i64 0, .int .i64 0, .int .i64 0, .int .i64 0] 24)).alloc (.cells #[.int .i64 0, .int .i64 1000] 160)).alloc (.cells #[.slice (some ⟨w.heap.size + 1, 0, none⟩) 1 1, .int .i64 0, .int .i64 0, .int .i64 500, .int .i64 5, .int .i64 10] 24)).heap[w.heap.size]? = some (.cells #[.slice none 0 0, .int .i64 0, .int .i64 0, .int .i64 0, .int .i64 0, .int .i64 0] 24 (0, 0)) := blk_alloc (blk_alloc (blk_new w _ rfl) _) _
  have hk0 : (((w.alloc (.cells #[.slice none 0 0, .int .i64 0, .int .i64 0, .int .i64 0, .int .i64 0, .int .i64 0] 24)).alloc (.cells #[.int .i64 0, .int .i64 1000] 160)).alloc (.cells #[.slice (some ⟨w.heap.size + 1, 0, none⟩) 1 1, .int .i64 0, .int .i64 0, .int .i64 500, .int .i64 5, .int .i64 10] 24)).heap[w.heap.size + 1]? = some (.cells #[.int .i64 0, .int .i64 1000] 160 (0, 0)) := blk_alloc (blk_new _ _ (by simp)) _
  have hs0 : (((w.alloc (.cells #[.slice none 0 0, .int .i64 0, .int .i64 0, .int .i64 0, .int .i64 0, .int .i64 0] 24)).alloc (.cells #[.int .i64 0, .int .i64 1000] 160)).alloc (.cells #[.slice (some ⟨w.heap.size + 1, 0, none⟩) 1 1, .int .i64 0, .int .i64 0, .int .i64 500, .int .i64 5, .int .i64 10] 24)).heap[w.heap.size + 1 + 1]? = some (.cells #[.slice (some ⟨w.heap.size + 1, 0, none⟩) 1 1, .int .i64 0, .int .i64 0, .int .i64 500, .int .i64 5, .int .i64 10] 24 (0, 0)) := blk_new _ _ (by simp)
  have hrd : ∀ W : World, W.heap[w.heap.size + 1]? = some (.cells #[.int .i64 0, .int .i64 1000] 160 (0, 0)) → Rd W W.heap.size 2 (some ⟨w.heap.size + 1, 0, none⟩) 1 (brCs flatS.bs) := fun W h => ⟨rfl, fun _ => ⟨w.heap.size + 1, 0, rfl, blk_lt h, fun j hj => by
    rw [Nat.zero_add, blk_cell h]
    rcases (show j = 0 ∨ j = 1 by omega) with rfl | rfl <;> rfl⟩⟩
  have HRT := Lib.hid (rright_any (some ⟨w.heap.size + 1, 0, none⟩) 1 1 flatS _ rfl (hrd _ hk0))
  rw [okS_is flat_ok] at HRT
  have HR0 := Lib.hid hr0; have HK0 := Lib.hid hk0; have HS0 := Lib.hid hs0; have HB0 := Lib.hid hb0; have HRD := Lib.hid hrd
  clear hr0 hk0 hs0 hb0 hrd
  go_enter Tryz.func54, Tryz.ntmps54
  go_wp2_with fail
  refine HRT.out.mono ?_; rintro e w1 ⟨rfl, hb1⟩
  have hs1 := blk_below HS0.out hb1 (blk_lt HS0.out)
  have hr1 := blk_below HR0.out hb1 (blk_lt HR0.out)
  have hk1 := blk_below HK0.out hb1 (blk_lt HK0.out)
  have hbw := HB0.out.trans (hb1.mono HB0.out.size)
  obtain ⟨s0, s1, s2, s3, s4, s5, s6⟩ := cells6U hs1
  obtain ⟨r0, r1, r2, r3, r4, r5, r6⟩ := cells6U hr1
  have hsl := blk_lt hs1; have hrl := blk_lt hr1
  have HR1 := Lib.hid hr1; have HK1 := Lib.hid hk1; have HBW := Lib.hid hbw
  clear hs1 hr1 hk1 hbw hb1
  go_wp2_with fail
  refine bodyPost_ret (results_row_1 rfl _ _ w.heap.size 24 _ (0, 0) _ rfl (set6_blk HR1.out _ _ _ _ _ _) Tryz.underlying24 rfl (by kernel_rfl)) rfl ?_
  have hbe : Below w.heap.size w ((((((w1.setCell ⟨w.heap.size, 0, none⟩ (.slice (some ⟨w.heap.size + 1, 0, none⟩) 1 1)).setCell ⟨w.heap.size, 1, none⟩ (.int .i64 0)).setCell ⟨w.heap.size, 2, none⟩ (.int .i64 0)).setCell ⟨w.heap.size, 3, none⟩ (.int .i64 500)).setCell ⟨w.heap.size, 4, none⟩ (.int .i64 5)).setCell ⟨w.heap.size, 5, none⟩ (.int .i64 10)) :=
    (((((HBW.out.setCell (p := ⟨w.heap.size, 0, none⟩) (Nat.le_refl _) _).setCell (p := ⟨w.heap.size, 1, none⟩) (Nat.le_refl _) _).setCell (p := ⟨w.heap.size, 2, none⟩) (Nat.le_refl _) _).setCell (p := ⟨w.heap.size, 3, none⟩) (Nat.le_refl _) _).setCell (p := ⟨w.heap.size, 4, none⟩) (Nat.le_refl _) _).setCell (p := ⟨w.heap.size, 5, none⟩) (Nat.le_refl _) _
  refine ⟨some ⟨w.heap.size + 1, 0, none⟩, 1, rfl, HRD.out _ ?_, hbe⟩
  simp only [set_far _ _ _ _ (show w.heap.size + 1 ≠ w.heap.size by omega)]
  exact HK1.out
set_option maxHeartbeats 6400000 in
set_option maxRecDepth 100000 in
theorem wake_any (w : World) : Calls Tryz.prog 18 #[] w fun e w' => e = .returned (.bool true) ∧ Below w.heap.size w w' := by
  have HNW := Lib.hid (new_yes 100 365 w (by decide) (by decide))
  go_enter Tryz.func18, Tryz.ntmps18
  go_wp2_with fail
  refine HNW.out.mono ?_; rintro e w1 ⟨rfl, ho1, hb1⟩
  have hg1 := ho1.lt
  have HO1 : Hid (OwnAt w1 w.heap.size w.heap.size wakeA0) := Lib.hid ho1
  have HB1 := Lib.hid hb1
  clear ho1 hb1 HNW
  obtain ⟨g, hg⟩ : ∃ g, w.heap.size = g := ⟨_, rfl⟩
  have HG := Lib.hid hg
  rw [hg] at HO1 hg1 ⊢
  clear hg
  go_wp2_with fail
  refine (flat_any w1).mono ?_; rintro e w2 ⟨A, c, rfl, hr2, hb2⟩
  have HF := Lib.hid (file_any g g wakeA0 A 1 c flatS wakeR w2 (HO1.out.below hb2) (Good.new (by decide) (by decide)) rfl hr2)
  rw [wake_file] at HF
  have HB2 := Lib.hid (HB1.out.trans (hb2.mono HB1.out.size))
  clear hr2 hb2
  go_wp2_with fail
  refine HF.out.mono ?_; intro e w3 hd3
  obtain ⟨hgr3, hh3⟩ := hd3
  rcases hh3 with ⟨_, rfl, ho3⟩ | ⟨h0, _⟩
  · have HB3 : Hid (Below w.heap.size w w3) := Lib.hid ⟨hgr3.os.trans HB2.out.os, hgr3.tape.trans HB2.out.tape, hgr3.output.trans HB2.out.output, Nat.le_trans HB2.out.size hgr3.size, fun k hk => (hgr3.block k (Nat.lt_of_lt_of_le hk HB2.out.size) (fun e => by have := Option.some.inj e; have := HG.out; omega)).trans (HB2.out.block k hk)⟩
    have HO3 := Lib.hid ho3
    clear ho3 hgr3 HF HB2
    have hG1 := wake_good.1
    have HX := Lib.hid (HO3.out.below (bnewU w3 (.cells #[.int .i64 0, .int .i64 0, .int .i64 100000, .int .i64 0, .int .i64 0, .int .i64 0] 33)))
    have hbx := HB3.out.trans ((bnewU w3 (.cells #[.int .i64 0, .int .i64 0, .int .i64 100000, .int .i64 0, .int .i64 0, .int .i64 0] 33)).mono HB3.out.size)
    go_upto_region 5 with fail
    generalize w3.alloc (.cells #[.int .i64 0, .int .i64 0, .int .i64 100000, .int .i64 0, .int .i64 0, .int .i64 0] 33) = X at *
    have HBX := Lib.hid hbx
    have HAD := Lib.hid (uadvance_any g 0 wakeA1 100 X HX.out hG1)
    rw [wake_adv] at HAD
    clear hbx hG1 HB3 HO3
    go_wp2_with fail
    refine HAD.out.mono ?_; intro e w4 hd4
    obtain ⟨hgr4, hh4⟩ := hd4
    rcases hh4 with ⟨_, rfl, ho4⟩ | ⟨h0, _⟩
    · have HB4 : Hid (Below w.heap.size w w4) := Lib.hid ⟨hgr4.os.trans HBX.out.os, hgr4.tape.trans HBX.out.tape, hgr4.output.trans HBX.out.output, Nat.le_trans HBX.out.size hgr4.size, fun k hk => (hgr4.block k (Nat.lt_of_lt_of_le hk HBX.out.size) (fun e => by have := Option.some.inj e; have := HG.out; omega)).trans (HBX.out.block k hk)⟩
      have hG2 := wake_good.2
      have HPY := Lib.hid (pay_any0 g 0 wakeA2 1 1500 w4 ho4 hG2)
      obtain ⟨p1, p2, p3⟩ := wake_pay
      have hG3 := hG2.pay 1 1500
      obtain ⟨S3, m3, e3, hpe⟩ : ∃ S3 m3 e3, payS wakeA2 1 1500 = (S3, m3, e3) := ⟨_, _, _, rfl⟩
      rw [hpe] at HPY p1 p2 p3 hG3
      simp only at p1 p2 p3 hG3
      subst p1
      have HP2 := Lib.hid p2; have HP3 := Lib.hid p3; have HG3 := Lib.hid hG3
      clear p2 p3 hpe hG2 hG3 ho4 hgr4 HAD HBX HX
      go_wp2_with fail
      refine HPY.out.mono ?_; intro e w5 hd5
      obtain ⟨hgr5, hh5⟩ := hd5
      rcases hh5 with ⟨_, rfl, ho5⟩ | ⟨h0, _⟩
      · have hB5 : Below w.heap.size w w5 := ⟨hgr5.os.trans HB4.out.os, hgr5.tape.trans HB4.out.tape, hgr5.output.trans HB4.out.output, Nat.le_trans HB4.out.size hgr5.size, fun k hk => (hgr5.block k (Nat.lt_of_lt_of_le hk HB4.out.size) (fun e => by have := Option.some.inj e; have := HG.out; omega)).trans (HB4.out.block k hk)⟩
        obtain ⟨q0, q1, q2, q3, q4, q5⟩ := m3
        have hq3 : q3 = 1500 := HP2.out
        subst hq3
        have ho5' : OwnAt w5 0 g S3 := ho5
        have hbn := bnewU w5 (.cells #[.int .i64 q0, .int .i64 q1, .int .i64 q2, .int .i64 1500, .int .i64 q4, .int .i64 q5] 33)
        have hox := ho5'.below hbn
        have hmx := blk_new w5 (.cells #[.int .i64 q0, .int .i64 q1, .int .i64 q2, .int .i64 1500, .int .i64 q4, .int .i64 q5] 33) rfl
        have hbx := hB5.trans (hbn.mono hB5.size)
        go_upto_region 7 with fail
        obtain ⟨gx, hgx⟩ : ∃ gx, w5.heap.size = gx := ⟨_, rfl⟩
        rw [hgx] at hmx ⊢
        generalize w5.alloc (.cells #[.int .i64 q0, .int .i64 q1, .int .i64 q2, .int .i64 1500, .int .i64 q4, .int .i64 q5] 33) = X at *
        obtain ⟨x0, x1, x2, x3, x4, x5, x6⟩ := cells6U hmx
        have hxl := blk_lt hmx
        have HIT := Lib.hid (fun wx (hb : Below X.heap.size X wx) => by
          have h := uitems_any g 0 S3 wx (hox.below hb) HG3.out
          unfold ItemsOut at h
          rw [HP3.out] at h
          exact h)
        have HBX := Lib.hid hbx
        clear hbn hox hmx hbx hB5 ho5 ho5' hgr5 hgx HPY HB4 HP2
        go_wp2_with fail
        refine (HIT.out _ (Below.refl _ _)).mono ?_; rintro e w6 ⟨A6, c6, rfl, ho6, hb6⟩
        have HB6 := Lib.hid hb6
        clear ho6 hb6
        go_wp2_with fail
        refine (HIT.out _ HB6.out).mono ?_; rintro e w7 ⟨A7, c7, rfl, ho7, hb7⟩
        obtain ⟨g7, cap7, ev7, hgB7, hgl7⟩ := ho7.form (by simp)
        injection ev7 with ev7 _ _
        subst ev7
        have c3 := (own_cell ho7 (i := 3) (u := .int .i64 99500) rfl).1
        have HB7 := Lib.hid hb7
        clear ho7 hb7
        go_wp2_with fail
        all_goals go_ret
        all_goals exact ⟨rfl, HBX.out.trans ((HB6.out.trans (HB7.out.mono HB6.out.size)).mono HBX.out.size)⟩
      · exact absurd rfl h0
    · exact absurd rfl h0
  · exact absurd rfl h0
end Go.Proofs.YtbjjgnaojoaoiaaGreat
