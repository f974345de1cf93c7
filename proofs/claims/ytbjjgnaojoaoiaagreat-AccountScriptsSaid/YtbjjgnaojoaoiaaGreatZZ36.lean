/- Laws. -/
import Derived.Test.YtbjjgnaojoaoiaaGreatZZ30
import Derived.Test.YtbjjgnaojoaoiaaGreatZZ32
import Derived.Test.YtbjjgnaojoaoiaaGreatZZ35
import Derived.Test.YtbjjgnaojoaoiaaGreatZZ29
namespace Go.Proofs.YtbjjgnaojoaoiaaGreat
open Go.RowKit Go
set_option linter.unusedVariables false
set_option linter.unusedSimpArgs false
set_option maxHeartbeats 6400000
set_option maxRecDepth 100000
def MVZ : Obj := .cells #[.int .i64 0, .int .i64 0, .int .i64 0, .int .i64 0, .int .i64 0, .int .i64 0] 33
theorem ours0_facts (w : World) (t : Stp) : Below w.heap.size w ((w.alloc (stpO t)).alloc MVZ) ∧ ((w.alloc (stpO t)).alloc MVZ).heap[w.heap.size + 1]? = some (.cells #[.int .i64 0, .int .i64 0, .int .i64 0, .int .i64 0, .int .i64 0, .int .i64 0] 33 (0, 0)) ∧ ((w.alloc (stpO t)).alloc MVZ).heap.size = w.heap.size + 2 := by
 have hm := blk_new (w.alloc (stpO t)) (.cells #[.int .i64 0, .int .i64 0, .int .i64 0, .int .i64 0, .int .i64 0, .int .i64 0] 33) rfl
 simp only [World.size_alloc] at hm
 exact ⟨((Below.refl _ _).alloc (Nat.le_refl _) _).alloc (by simp) _, hm, by simp⟩
theorem ours_any (g B : Nat) (S : Ac) (t : Stp) (w : World) (h : OwnAt w B g S) (hG : Good S) (hr : Rd w w.heap.size 2 t.A t.s.bs.length (brCs t.s.bs)) :
  Calls Tryz.prog 20 #[.pointer (some ⟨g, 0, none⟩), stpV t] w (DoesOf w g S (stepS S t)) := by
 have hgl := h.lt
 obtain ⟨hb0, hm0, hz0⟩ := ours0_facts w t
 have HV0 := hyd (h.below hb0)
 have HR0 := hyd ((hr.below hb0).wider hb0.size)
 have n1 : w.heap.size + 1 ≠ g := by omega
 have HB0 := hyd hb0; have HM0 := hyd hm0; have HG := hyd hG
 clear h hr hb0 hm0 hz0 hG
 by_cases h0 : t.act = 0
 · have HD := hyd (file_any g B S t.A t.s.bs.length t.c t.s t.r _ HV0.out HG.out rfl HR0.out)
   have HS : Hid (stepS S t = fileS S t.s t.r) := hyd (by unfold stepS; rw [if_pos h0])
   have e0 : (t.act == 0) = true := by simp [h0]
   clear h0 HV0 HR0
   go_enter Tryz.func20, Tryz.ntmps20
   go_wp2_with fail
   refine HD.out.mono ?_; intro e w1 hd
   obtain ⟨m, er, rfl⟩ := hd.form
   have hm := move_keeps hd HM0.out n1
   obtain ⟨m0, m1, m2, m3, m4, m5, m6⟩ := cells6U hm
   have HE := hyd (DoesOf.wrap HB0.out hd hm (by omega)); have HM := hyd (put6_at hm m)
   clear hd hm HD
   go_wp2_with fail
   rw [HS.out]
   exact mv_ret m er (w.heap.size + 1) rfl rfl rfl HM.out HE.out
 have e0 : (t.act == 0) = false := by simp [h0]
 by_cases h1 : t.act = 1
 · have HD := hyd (uamend_any g B S t.A t.s.bs.length t.c t.s t.n t.a t.b _ HV0.out HG.out rfl HR0.out)
   have HS : Hid (stepS S t = amendS S t.s t.n t.a t.b) := hyd (by unfold stepS; rw [if_neg h0, if_pos h1])
   have e1 : (t.act == 1) = true := by simp [h1]
   clear h0 h1 HV0 HR0
   go_enter Tryz.func20, Tryz.ntmps20
   go_wp2_with fail
   refine HD.out.mono ?_; intro e w1 hd
   obtain ⟨m, er, rfl⟩ := hd.form
   have hm := move_keeps hd HM0.out n1
   obtain ⟨m0, m1, m2, m3, m4, m5, m6⟩ := cells6U hm
   have HE := hyd (DoesOf.wrap HB0.out hd hm (by omega)); have HM := hyd (put6_at hm m)
   clear hd hm HD
   go_wp2_with fail
   rw [HS.out]
   exact mv_ret m er (w.heap.size + 1) rfl rfl rfl HM.out HE.out
 have e1 : (t.act == 1) = false := by simp [h1]
 by_cases h2 : t.act = 2
 · have HD := hyd (pay_any0 g B S t.n t.a _ HV0.out HG.out)
   have HS : Hid (stepS S t = payS S t.n t.a) := hyd (by unfold stepS; rw [if_neg h0, if_neg h1, if_pos h2])
   have e2 : (t.act == 2) = true := by simp [h2]
   clear h0 h1 h2 HV0 HR0
   go_enter Tryz.func20, Tryz.ntmps20
   go_wp2_with fail
   refine HD.out.mono ?_; intro e w1 hd
   obtain ⟨m, er, rfl⟩ := hd.form
   have hm := move_keeps hd HM0.out n1
   obtain ⟨m0, m1, m2, m3, m4, m5, m6⟩ := cells6U hm
   have HE := hyd (DoesOf.wrap HB0.out hd hm (by omega)); have HM := hyd (put6_at hm m)
   clear hd hm HD
   go_wp2_with fail
   rw [HS.out]
   exact mv_ret m er (w.heap.size + 1) rfl rfl rfl HM.out HE.out
 have e2 : (t.act == 2) = false := by simp [h2]
 by_cases h3 : t.act = 3
 · have HD := hyd (reverse_any g B S t.n _ HV0.out HG.out)
   have HS : Hid (stepS S t = reverseS S t.n) := hyd (by unfold stepS; rw [if_neg h0, if_neg h1, if_neg h2, if_pos h3])
   have e3 : (t.act == 3) = true := by simp [h3]
   clear h0 h1 h2 h3 HV0 HR0
   go_enter Tryz.func20, Tryz.ntmps20
   go_wp2_with fail
   refine HD.out.mono ?_; intro e w1 hd
   obtain ⟨m, er, rfl⟩ := hd.form
   have hm := move_keeps hd HM0.out n1
   obtain ⟨m0, m1, m2, m3, m4, m5, m6⟩ := cells6U hm
   have HE := hyd (DoesOf.wrap HB0.out hd hm (by omega)); have HM := hyd (put6_at hm m)
   clear hd hm HD
   go_wp2_with fail
   rw [HS.out]
   exact mv_ret m er (w.heap.size + 1) rfl rfl rfl HM.out HE.out
 have e3 : (t.act == 3) = false := by simp [h3]
 by_cases h4 : t.act = 4
 · have HD := hyd (offset_any g B S t.a _ HV0.out HG.out)
   have HS : Hid (stepS S t = offsetS S t.a) := hyd (by unfold stepS; rw [if_neg h0, if_neg h1, if_neg h2, if_neg h3, if_pos h4])
   have e4 : (t.act == 4) = true := by simp [h4]
   clear h0 h1 h2 h3 h4 HV0 HR0
   go_enter Tryz.func20, Tryz.ntmps20
   go_wp2_with fail
   refine HD.out.mono ?_; intro e w1 hd
   obtain ⟨m, er, rfl⟩ := hd.form
   have hm := move_keeps hd HM0.out n1
   obtain ⟨m0, m1, m2, m3, m4, m5, m6⟩ := cells6U hm
   have HE := hyd (DoesOf.wrap HB0.out hd hm (by omega)); have HM := hyd (put6_at hm m)
   clear hd hm HD
   go_wp2_with fail
   rw [HS.out]
   exact mv_ret m er (w.heap.size + 1) rfl rfl rfl HM.out HE.out
 have e4 : (t.act == 4) = false := by simp [h4]
 by_cases h5 : t.act = 5
 · have HD := hyd (refund_any g B S t.a _ HV0.out HG.out.small HG.out.cr.2)
   have HS : Hid (stepS S t = refundS S t.a) := hyd (by unfold stepS; rw [if_neg h0, if_neg h1, if_neg h2, if_neg h3, if_neg h4, if_pos h5])
   have e5 : (t.act == 5) = true := by simp [h5]
   clear h0 h1 h2 h3 h4 h5 HV0 HR0
   go_enter Tryz.func20, Tryz.ntmps20
   go_wp2_with fail
   refine HD.out.mono ?_; intro e w1 hd
   obtain ⟨m, er, rfl⟩ := hd.form
   have hm := move_keeps hd HM0.out n1
   obtain ⟨m0, m1, m2, m3, m4, m5, m6⟩ := cells6U hm
   have HE := hyd (DoesOf.wrap HB0.out hd hm (by omega)); have HM := hyd (put6_at hm m)
   clear hd hm HD
   go_wp2_with fail
   rw [HS.out]
   exact mv_ret m er (w.heap.size + 1) rfl rfl rfl HM.out HE.out
 have e5 : (t.act == 5) = false := by simp [h5]
 have HD := hyd (uadvance_any g B S t.n _ HV0.out HG.out)
 have HS : Hid (stepS S t = advanceS S t.n) := hyd (by unfold stepS; rw [if_neg h0, if_neg h1, if_neg h2, if_neg h3, if_neg h4, if_neg h5])
 clear h0 h1 h2 h3 h4 h5 HV0 HR0
 go_enter Tryz.func20, Tryz.ntmps20
 go_wp2_with fail
 refine HD.out.mono ?_; intro e w1 hd
 obtain ⟨m, er, rfl⟩ := hd.form
 have hm := move_keeps hd HM0.out n1
 obtain ⟨m0, m1, m2, m3, m4, m5, m6⟩ := cells6U hm
 have HE := hyd (DoesOf.wrap HB0.out hd hm (by omega)); have HM := hyd (put6_at hm m)
 clear hd hm HD
 go_wp2_with fail
 rw [HS.out]
 exact mv_ret m er (w.heap.size + 1) rfl rfl rfl HM.out HE.out
def SomeB (w : World) (e : Ending) (w' : World) : Prop := (∃ b : Bool, e = .returned (.bool b)) ∧ w = w'
theorem much_any (A : Option Addr) (n c : Nat) (l : List Stp) (w : World) (h : RdS w A n l) (hm : n ≤ maxLen) :
  Calls Tryz.prog 19 #[.slice A n c] w (SomeB w) := by
 unfold maxLen at hm
 have HR := hyd h
 have HN := hyd h.len
 clear h
 go_enter Tryz.func19, Tryz.ntmps19
 go_wp2_with fail
 go_loop [3] (fun v3 => ∃ k : Nat, k ≤ n ∧ v3 = .int .i64 k) (fun v3 => n - (intOf v3).toNat)
 case atStart => exact ⟨0, by omega, rfl⟩
 case round =>
  obtain ⟨k, hk, rfl⟩ := hrel
  by_cases hlt : k < n
  · have hkl : k < l.length := by have := HN.out; omega
    obtain ⟨b, off, rfl, hb, hst⟩ := HR.out.at_ hkl
    have c1 := hst.c1
    have i1 : (0 : Int) ≤ (k : Int) := by omega
    have i2 : (k : Int) < (n : Int) := by omega
    clear hst
    by_cases h100 : k < 100
    · have hd : decide ((k : Int) < 100) = true := by simp; omega
      by_cases hbig : 100 < (l[k]).s.bs.length
      · have hd2 : decide (((l[k]).s.bs.length : Int) > 100) = true := by simp; omega
        go_wp2_with fail
        all_goals go_ret
        all_goals exact ⟨⟨_, rfl⟩, rfl⟩
      · have hd2 : decide (((l[k]).s.bs.length : Int) > 100) = false := by simp; omega
        go_wp2_with fail
        go_round
        case rel => exact ⟨k + 1, by omega, by go_num⟩
        case measure => simp [intOf]; omega
    · have hd : decide ((k : Int) < 100) = false := by simp; omega
      go_wp2_with fail
      all_goals go_ret
      all_goals exact ⟨⟨_, rfl⟩, rfl⟩
  · go_wp2_with fail
    all_goals go_ret
    all_goals exact ⟨⟨_, rfl⟩, rfl⟩
theorem results_row_1 {P : Program} {fn : Func} {p : Tmp} {ty : TypeId} (h : fn.results = #[.cell p ty]) (tmps : Array Value) (w : World) (g : Nat) (t : TypeId) (cs : Array Value) (fr : Nat × Nat) (d : TypeDesc)
  (hp : tmps.getD p undef = .pointer (some ⟨g, 0, none⟩)) (hg : w.heap[g]? = some (.cells cs t fr))
  (hu : P.underlying ty = some d) (hd : (match d with | .struct _ | .array _ _ => true | _ => false) = true) (hi : (P.info? ty).map (·.size) = some cs.size) :
  (results fn tmps).run P w = .ok (.agg cs) w := by
 have hp' : tmps[p]?.getD undef = .pointer (some ⟨g, 0, none⟩) := by simpa using hp
 simp [results, h, hp', asAddr, run_loadVar_row w g t ty cs fr d hg hu hd hi]
theorem set6_blk {w : World} {v0 v1 v2 v3 v4 v5 : Value} {t g : Nat} (h : w.heap[g]? = some (.cells #[v0, v1, v2, v3, v4, v5] t (0, 0))) (u0 u1 u2 u3 u4 u5 : Value) :
  ((((((w.setCell ⟨g, 0, none⟩ u0).setCell ⟨g, 1, none⟩ u1).setCell ⟨g, 2, none⟩ u2).setCell ⟨g, 3, none⟩ u3).setCell ⟨g, 4, none⟩ u4).setCell ⟨g, 5, none⟩ u5).heap[g]? = some (.cells #[u0, u1, u2, u3, u4, u5] t (0, 0)) := by
 have a0 := blk_set h 0 u0
 have a1 := blk_set a0 1 u1
 have a2 := blk_set a1 2 u2
 have a3 := blk_set a2 3 u3
 have a4 := blk_set a3 4 u4
 have a5 := blk_set a4 5 u5
 exact a5
theorem credit_eq (g B : Nat) (S : Ac) (w : World) (h : OwnAt w B g S) : Calls Tryz.prog 12 #[.pointer (some ⟨g, 0, none⟩)] w fun e w' => e = .returned (.int .i64 S.cr) ∧ w' = w := by
 obtain ⟨vp, vq, hg⟩ := h.cell
 obtain ⟨a0, a1, a2, a3, a4, a5⟩ := cells5U hg
 have hgl := blk_lt hg
 clear h hg
 go_enter Tryz.func12, Tryz.ntmps12
 go_wp2_with fail
 go_ret
 exact ⟨rfl, rfl⟩
def FlatOf (w : World) (e : Ending) (w' : World) : Prop := ∃ A c, e = .returned (schV A 1 c flatS) ∧ Rd w' w'.heap.size 2 A 1 (brCs flatS.bs) ∧ Below w.heap.size w w'
theorem flat_any (w : World) : Calls Tryz.prog 54 #[.int .i64 1000] w (FlatOf w) := by
 have hb0 : Below w.heap.size w (((w.alloc (.cells #[.slice none 0 0, .int .i64 0, .int .i64 0, .int .i64 0, .int .i64 0, .int .i64 0] 24)).alloc (.cells #[.int .i64 0, .int .i64 1000] 160)).alloc (.cells #[.slice (some ⟨w.heap.size + 1, 0, none⟩) 1 1, .int .i64 0, .int .i64 0, .int .i64 500, .int .i64 5, .int .i64 10] 24)) := (((Below.refl _ _).alloc (Nat.le_refl _) _).alloc (by simp) _).alloc (by simp; omega) _
 have hr0 : (((w.alloc (.cells #[.slice none 0 0, .int .i64 0, .int .i64 0, .int .i64 0, .int .i64 0, .int .i64 0] 24)).alloc (.cells #[.int .i64 0, .int .i64 1000] 160)).alloc (.cells #[.slice (some ⟨w.heap.size + 1, 0, none⟩) 1 1, .int .i64 0, .int .i64 0, .int .i64 500, .int .i64 5, .int .i64 10] 24)).heap[w.heap.size]? = some (.cells #[.slice none 0 0, .int .i64 0, .int .i64 0, .int .i64 0, .int .i64 0, .int .i64 0] 24 (0, 0)) := blk_alloc (blk_alloc (blk_new w _ rfl) _) _
 have hk0 : (((w.alloc (.cells #[.slice none 0 0, .int .i64 0, .int .i64 0, .int .i64 0, .int .i64 0, .int .i64 0] 24)).alloc (.cells #[.int .i64 0, .int .i64 1000] 160)).alloc (.cells #[.slice (some ⟨w.heap.size + 1, 0, none⟩) 1 1, .int .i64 0, .int .i64 0, .int .i64 500, .int .i64 5, .int .i64 10] 24)).heap[w.heap.size + 1]? = some (.cells #[.int .i64 0, .int .i64 1000] 160 (0, 0)) := blk_alloc (blk_new _ _ (by simp)) _
 have hs0 : (((w.alloc (.cells #[.slice none 0 0, .int .i64 0, .int .i64 0, .int .i64 0, .int .i64 0, .int .i64 0] 24)).alloc (.cells #[.int .i64 0, .int .i64 1000] 160)).alloc (.cells #[.slice (some ⟨w.heap.size + 1, 0, none⟩) 1 1, .int .i64 0, .int .i64 0, .int .i64 500, .int .i64 5, .int .i64 10] 24)).heap[w.heap.size + 1 + 1]? = some (.cells #[.slice (some ⟨w.heap.size + 1, 0, none⟩) 1 1, .int .i64 0, .int .i64 0, .int .i64 500, .int .i64 5, .int .i64 10] 24 (0, 0)) := blk_new _ _ (by simp)
 have hrd : ∀ W : World, W.heap[w.heap.size + 1]? = some (.cells #[.int .i64 0, .int .i64 1000] 160 (0, 0)) → Rd W W.heap.size 2 (some ⟨w.heap.size + 1, 0, none⟩) 1 (brCs flatS.bs) := fun W h => ⟨rfl, fun _ => ⟨w.heap.size + 1, 0, rfl, blk_lt h, fun j hj => by
  rw [Nat.zero_add, blk_cell h]
  rcases (show j = 0 ∨ j = 1 by omega) with rfl | rfl <;> rfl⟩⟩
 have HRT := hyd (rright_any (some ⟨w.heap.size + 1, 0, none⟩) 1 1 flatS _ rfl (hrd _ hk0))
 rw [okS_is flat_ok] at HRT
 have HR0 := hyd hr0; have HK0 := hyd hk0; have HS0 := hyd hs0; have HB0 := hyd hb0; have HRD := hyd hrd
 clear hr0 hk0 hs0 hb0 hrd
 go_enter Tryz.func54, Tryz.ntmps54
 go_wp2_with fail
 refine HRT.out.mono ?_; rintro e w1 ⟨rfl, hb1⟩
 have hs1 := blk_below HS0.out hb1 (blk_lt HS0.out)
 have hr1 := blk_below HR0.out hb1 (blk_lt HR0.out)
 have hk1 := blk_below HK0.out hb1 (blk_lt HK0.out)
 have hbw := HB0.out.trans (hb1.mono HB0.out.size)
 obtain ⟨s0, s1, s2, s3, s4, s5, s6⟩ := cells6U hs1
 obtain ⟨r0, r1, r2, r3, r4, r5, r6⟩ := cells6U hr1
 have hsl := blk_lt hs1; have hrl := blk_lt hr1
 have HR1 := hyd hr1; have HK1 := hyd hk1; have HBW := hyd hbw
 clear hs1 hr1 hk1 hbw hb1
 go_wp2_with fail
 refine bodyPost_ret (results_row_1 rfl _ _ w.heap.size 24 _ (0, 0) _ rfl (set6_blk HR1.out _ _ _ _ _ _) Tryz.underlying24 rfl (by kernel_rfl)) rfl ?_
 have hbe : Below w.heap.size w ((((((w1.setCell ⟨w.heap.size, 0, none⟩ (.slice (some ⟨w.heap.size + 1, 0, none⟩) 1 1)).setCell ⟨w.heap.size, 1, none⟩ (.int .i64 0)).setCell ⟨w.heap.size, 2, none⟩ (.int .i64 0)).setCell ⟨w.heap.size, 3, none⟩ (.int .i64 500)).setCell ⟨w.heap.size, 4, none⟩ (.int .i64 5)).setCell ⟨w.heap.size, 5, none⟩ (.int .i64 10)) :=
  (((((HBW.out.setCell (p := ⟨w.heap.size, 0, none⟩) (Nat.le_refl _) _).setCell (p := ⟨w.heap.size, 1, none⟩) (Nat.le_refl _) _).setCell (p := ⟨w.heap.size, 2, none⟩) (Nat.le_refl _) _).setCell (p := ⟨w.heap.size, 3, none⟩) (Nat.le_refl _) _).setCell (p := ⟨w.heap.size, 4, none⟩) (Nat.le_refl _) _).setCell (p := ⟨w.heap.size, 5, none⟩) (Nat.le_refl _) _
 refine ⟨some ⟨w.heap.size + 1, 0, none⟩, 1, rfl, HRD.out _ ?_, hbe⟩
 simp only [set_far _ _ _ _ (show w.heap.size + 1 ≠ w.heap.size by omega)]
 exact HK1.out
theorem wake_any (w : World) : Calls Tryz.prog 18 #[] w fun e w' => e = .returned (.bool true) ∧ Below w.heap.size w w' := by
 have HNW := hyd (new_yes 100 365 w (by decide) (by decide))
 go_enter Tryz.func18, Tryz.ntmps18
 go_wp2_with fail
 refine HNW.out.mono ?_; rintro e w1 ⟨rfl, ho1, hb1⟩
 have hg1 := ho1.lt
 have HO1 : Hid (OwnAt w1 w.heap.size w.heap.size wakeA0) := hyd ho1
 have HB1 := hyd hb1
 clear ho1 hb1 HNW
 obtain ⟨g, hg⟩ : ∃ g, w.heap.size = g := ⟨_, rfl⟩
 have HG := hyd hg
 rw [hg] at HO1 hg1 ⊢
 clear hg
 go_wp2_with fail
 refine (flat_any w1).mono ?_; rintro e w2 ⟨A, c, rfl, hr2, hb2⟩
 have HF := hyd (file_any g g wakeA0 A 1 c flatS wakeR w2 (HO1.out.below hb2) (Good.new (by decide) (by decide)) rfl hr2)
 rw [wake_file] at HF
 have HB2 := hyd (HB1.out.trans (hb2.mono HB1.out.size))
 clear hr2 hb2
 go_wp2_with fail
 refine HF.out.mono ?_; intro e w3 hd3
 obtain ⟨hgr3, hh3⟩ := hd3
 rcases hh3 with ⟨_, rfl, ho3⟩ | ⟨h0, _⟩
 · have HB3 : Hid (Below w.heap.size w w3) := hyd ⟨hgr3.os.trans HB2.out.os, hgr3.tape.trans HB2.out.tape, hgr3.output.trans HB2.out.output, Nat.le_trans HB2.out.size hgr3.size, fun k hk => (hgr3.block k (Nat.lt_of_lt_of_le hk HB2.out.size) (fun e => by have := Option.some.inj e; have := HG.out; omega)).trans (HB2.out.block k hk)⟩
   have HO3 := hyd ho3
   clear ho3 hgr3 HF HB2
   have hG1 := wake_good.1
   have HX := hyd (HO3.out.below (bnewU w3 (.cells #[.int .i64 0, .int .i64 0, .int .i64 100000, .int .i64 0, .int .i64 0, .int .i64 0] 33)))
   have hbx := HB3.out.trans ((bnewU w3 (.cells #[.int .i64 0, .int .i64 0, .int .i64 100000, .int .i64 0, .int .i64 0, .int .i64 0] 33)).mono HB3.out.size)
   go_upto_region 5 with fail
   generalize w3.alloc (.cells #[.int .i64 0, .int .i64 0, .int .i64 100000, .int .i64 0, .int .i64 0, .int .i64 0] 33) = X at *
   have HBX := hyd hbx
   have HAD := hyd (uadvance_any g 0 wakeA1 100 X HX.out hG1)
   rw [wake_adv] at HAD
   clear hbx hG1 HB3 HO3
   go_wp2_with fail
   refine HAD.out.mono ?_; intro e w4 hd4
   obtain ⟨hgr4, hh4⟩ := hd4
   rcases hh4 with ⟨_, rfl, ho4⟩ | ⟨h0, _⟩
   · have HB4 : Hid (Below w.heap.size w w4) := hyd ⟨hgr4.os.trans HBX.out.os, hgr4.tape.trans HBX.out.tape, hgr4.output.trans HBX.out.output, Nat.le_trans HBX.out.size hgr4.size, fun k hk => (hgr4.block k (Nat.lt_of_lt_of_le hk HBX.out.size) (fun e => by have := Option.some.inj e; have := HG.out; omega)).trans (HBX.out.block k hk)⟩
     have hG2 := wake_good.2
     have HPY := hyd (pay_any0 g 0 wakeA2 1 1500 w4 ho4 hG2)
     obtain ⟨p1, p2, p3⟩ := wake_pay
     have hG3 := hG2.pay 1 1500
     obtain ⟨S3, m3, e3, hpe⟩ : ∃ S3 m3 e3, payS wakeA2 1 1500 = (S3, m3, e3) := ⟨_, _, _, rfl⟩
     rw [hpe] at HPY p1 p2 p3 hG3
     simp only at p1 p2 p3 hG3
     subst p1
     have HP2 := hyd p2; have HP3 := hyd p3; have HG3 := hyd hG3
     clear p2 p3 hpe hG2 hG3 ho4 hgr4 HAD HBX HX
     go_wp2_with fail
     refine HPY.out.mono ?_; intro e w5 hd5
     obtain ⟨hgr5, hh5⟩ := hd5
     rcases hh5 with ⟨_, rfl, ho5⟩ | ⟨h0, _⟩
     · have hB5 : Below w.heap.size w w5 := ⟨hgr5.os.trans HB4.out.os, hgr5.tape.trans HB4.out.tape, hgr5.output.trans HB4.out.output, Nat.le_trans HB4.out.size hgr5.size, fun k hk => (hgr5.block k (Nat.lt_of_lt_of_le hk HB4.out.size) (fun e => by have := Option.some.inj e; have := HG.out; omega)).trans (HB4.out.block k hk)⟩
       obtain ⟨q0, q1, q2, q3, q4, q5⟩ := m3
       have hq3 : q3 = 1500 := HP2.out
       subst hq3
       have ho5' : OwnAt w5 0 g S3 := ho5
       have hbn := bnewU w5 (.cells #[.int .i64 q0, .int .i64 q1, .int .i64 q2, .int .i64 1500, .int .i64 q4, .int .i64 q5] 33)
       have hox := ho5'.below hbn
       have hmx := blk_new w5 (.cells #[.int .i64 q0, .int .i64 q1, .int .i64 q2, .int .i64 1500, .int .i64 q4, .int .i64 q5] 33) rfl
       have hbx := hB5.trans (hbn.mono hB5.size)
       go_upto_region 7 with fail
       obtain ⟨gx, hgx⟩ : ∃ gx, w5.heap.size = gx := ⟨_, rfl⟩
       rw [hgx] at hmx ⊢
       generalize w5.alloc (.cells #[.int .i64 q0, .int .i64 q1, .int .i64 q2, .int .i64 1500, .int .i64 q4, .int .i64 q5] 33) = X at *
       obtain ⟨x0, x1, x2, x3, x4, x5, x6⟩ := cells6U hmx
       have hxl := blk_lt hmx
       have HIT := hyd (fun wx (hb : Below X.heap.size X wx) => by
        have h := uitems_any g 0 S3 wx (hox.below hb) HG3.out
        unfold ItemsOut at h
        rw [HP3.out] at h
        exact h)
       have HBX := hyd hbx
       clear hbn hox hmx hbx hB5 ho5 ho5' hgr5 hgx HPY HB4 HP2
       go_wp2_with fail
       refine (HIT.out _ (Below.refl _ _)).mono ?_; rintro e w6 ⟨A6, c6, rfl, ho6, hb6⟩
       have HB6 := hyd hb6
       clear ho6 hb6
       go_wp2_with fail
       refine (HIT.out _ HB6.out).mono ?_; rintro e w7 ⟨A7, c7, rfl, ho7, hb7⟩
       obtain ⟨g7, cap7, ev7, hgB7, hgl7⟩ := ho7.form (by simp)
       injection ev7 with ev7 _ _
       subst ev7
       have c3 := (own_cell ho7 (i := 3) (u := .int .i64 99500) rfl).1
       have HB7 := hyd hb7
       clear ho7 hb7
       go_wp2_with fail
       all_goals go_ret
       all_goals exact ⟨rfl, HBX.out.trans ((HB6.out.trans (HB7.out.mono HB6.out.size)).mono HBX.out.size)⟩
     · exact absurd rfl h0
   · exact absurd rfl h0
 · exact absurd rfl h0
structure AccZ (w wr : World) (g : Nat) (S : Ac) : Prop where
 own : OwnAt wr 0 g S
 good : Good S
 bel : Below w.heap.size w wr
theorem AccZ.step {w wr w' : World} {g : Nat} {S : Ac} {r : Ac × Mv × Int} {e : Ending} (h : AccZ w wr g S) (hg : w.heap.size ≤ g) (hd : DoesOf wr g S r e w') (hG : Good r.1) (hS : r.2.2 ≠ 0 → r.1 = S) : AccZ w w' g r.1 := by
 have hb : Below w.heap.size w w' := ⟨hd.1.os.trans h.bel.os, hd.1.tape.trans h.bel.tape, hd.1.output.trans h.bel.output, Nat.le_trans h.bel.size hd.1.size, fun k hk => (hd.1.block k (Nat.lt_of_lt_of_le hk h.bel.size) (fun e => by have := Option.some.inj e; omega)).trans (h.bel.block k hk)⟩
 rcases hd.2 with ⟨h0, _, ho⟩ | ⟨h0, _, ho⟩
 · exact ⟨ho, hG, hb⟩
 · rw [hS h0]; exact ⟨ho, h.good, hb⟩
theorem AccZ.below {w wr w' : World} {g : Nat} {S : Ac} (h : AccZ w wr g S) (hb : Below wr.heap.size wr w') : AccZ w w' g S := ⟨h.own.below hb, h.good, h.bel.trans (hb.mono h.bel.size)⟩
theorem DoesOf.good {w w' : World} {g : Nat} {S : Ac} {r : Ac × Mv × Int} {e : Ending} (hd : DoesOf w g S r e w') (h0 : r.2.2 = 0) : e = .returned (mvR r.2.1 0) := by
 rcases hd.2 with ⟨_, e, _⟩ | ⟨h, _⟩
 · exact e
 · exact absurd h0 h
def strL (l : List Nat) : ByteArray := strOfNums (l.map fun x : Nat => (x : Int))
theorem conv_bytes {w : World} {B n c : Nat} {A : Option Addr} {l : List Nat} (h : w.ownsRow B 5 1 (.slice A n c) n (bys l)) (hn : l.length = n) (h0 : 0 < n) :
  (convert 66 9 (.slice A n c)).run Tryz.prog w = .ok (.string (strL l)) w := by
 obtain ⟨g, cap, e, _⟩ := h.form h0
 injection e with e1 _ e3
 subst e1 e3
 refine run_convert_bytes_arg w 66 5 Tryz.underlying66 Tryz.underlying5 g 0 n c (l.map fun x : Nat => (x : Int)) (by rw [List.length_map]; exact hn) (fun i hi => ?_) 9 Tryz.underlying9
 rw [Nat.zero_add]
 have hil : i < l.length := by omega
 have := (own_cell h (bys_at hil)).1
 rw [this]
 congr 1
 rw [List.getD_eq_getElem?_getD, List.getElem?_map, List.getElem?_eq_getElem hil]; rfl
theorem saveB_pos (S : Ac) : 0 < (saveB S).length := by
 unfold saveB saveN
 rw [numsB_app, numsB_app, numsB_app, numsB_cons]
 have := numB_pos S.day.toNat
 simp only [List.length_append]; omega
theorem sameItU_any (A B : Option Addr) (xs : List Dq) (n m c c' : Nat) (w : World) (hx : Rd w w.heap.size 4 A n (itCs xs)) (hy : Rd w w.heap.size 4 B m (itCs xs)) (hn : n ≤ 1000000) :
  Calls Tryz.prog 28 #[.slice A n c, .slice B m c'] w fun e w' => e = .returned (.bool true) ∧ Below w.heap.size w w' := by
 have ex : xs.length = n := by have := hx.1; rw [itCs_len] at this; omega
 have ey : xs.length = m := by have := hy.1; rw [itCs_len] at this; omega
 have hnm : n = m := by omega
 subst hnm
 have HX := hyd hx; have HY := hyd hy; have EX := hyd ex
 clear hx hy ex ey
 go_enter Tryz.func28, Tryz.ntmps28
 go_wp2_with fail
 go_loopg [5] n (fun gh vi wr => ∃ k : Nat, gh = n - k ∧ k ≤ n ∧ vi = .int .i64 k ∧ Below w.heap.size w wr)
 case atStart => exact ⟨0, rfl, by omega, rfl, Below.refl _ _⟩
 case round =>
  obtain ⟨k, hgk, hk, rfl, hb⟩ := hrel
  have HG := hyd hgk; have HB := hyd hb
  clear hgk hb
  by_cases hlt : k < n
  · have h1 : k < xs.length := by have := EX.out; omega
    obtain ⟨b1, o1, rfl, hb1, x0, x1, x2, x3⟩ := (HX.out.below HB.out).it h1
    obtain ⟨b2, o2, rfl, hb2, y0, y1, y2, y3⟩ := (HY.out.below HB.out).it h1
    have i1 : (0 : Int) ≤ (k : Int) := by omega
    have i2 : (k : Int) < (n : Int) := by omega
    generalize xs[k] = x at *
    go_wp2_with fail
    go_quiet (fail)
    clear x0 x1 x2 x3 y0 y1 y2 y3
    go_wp2_with fail
    go_roundg (n - (k + 1))
    case measure => have := HG.out; omega
    case rel => exact ⟨k + 1, rfl, by omega, by go_num, below_drewN HB.out _⟩
  · go_wp2_with fail
    go_ret
    exact ⟨rfl, HB.out⟩
theorem save_enter (u : Value) (w : World) : (callFunc 26 #[u]).run Tryz.prog w = .ok (.enter 26 #[u]) w := by kernel_rfl
theorem Rd.drewN {w : World} {B s n : Nat} {A : Option Addr} {xs : List Value} (h : Rd w B s A n xs) (k : Nat) : Rd (w.drewN k) B s A n xs := h
theorem sameItQ_any (A B : Option Addr) (xs : List Dq) (n m c c' : Nat) (w : World) (hx : Rd w w.heap.size 4 A n (itCs xs)) (hy : Rd w w.heap.size 4 B m (itCs xs)) (hn : n ≤ 1000000) :
  Calls Tryz.prog 28 #[.slice A n c, .slice B m c'] w fun e w' => e = .returned (.bool true) ∧ ∃ j, w' = w.drewN j := by
 have ex : xs.length = n := by have := hx.1; rw [itCs_len] at this; omega
 have ey : xs.length = m := by have := hy.1; rw [itCs_len] at this; omega
 have hnm : n = m := by omega
 subst hnm
 have HX := hyd hx; have HY := hyd hy; have EX := hyd ex
 clear hx hy ex ey
 go_enter Tryz.func28, Tryz.ntmps28
 go_wp2_with fail
 go_loopg [5] n (fun gh vi wr => ∃ k j : Nat, gh = n - k ∧ k ≤ n ∧ vi = .int .i64 k ∧ wr = w.drewN j)
 case atStart => exact ⟨0, 0, rfl, by omega, rfl, rfl⟩
 case round =>
  obtain ⟨k, j, hgk, hk, rfl, hwj⟩ := hrel
  have HG := hyd hgk; have HW := hyd hwj
  have hbr : Below w.heap.size w wr := by rw [hwj]; exact below_drewN (Below.refl _ _) j
  clear hgk hwj
  by_cases hlt : k < n
  · have h1 : k < xs.length := by have := EX.out; omega
    obtain ⟨b1, o1, rfl, hb1, x0, x1, x2, x3⟩ := (HX.out.below hbr).it h1
    obtain ⟨b2, o2, rfl, hb2, y0, y1, y2, y3⟩ := (HY.out.below hbr).it h1
    have i1 : (0 : Int) ≤ (k : Int) := by omega
    have i2 : (k : Int) < (n : Int) := by omega
    generalize xs[k] = x at *
    clear hbr
    go_wp2_with fail
    go_quiet (fail)
    clear x0 x1 x2 x3 y0 y1 y2 y3
    go_wp2_with fail
    go_roundg (n - (k + 1))
    case measure => have := HG.out; omega
    case rel => exact ⟨k + 1, j + nq, rfl, by omega, by go_num, by rw [HW.out]; simp⟩
  · clear hbr
    go_wp2_with fail
    go_ret
    exact ⟨rfl, j, HW.out⟩
theorem rsamepm_any (A B : Option Addr) (qs rs : List PmE) (n c c' : Nat) (w : World) (hq : qs.length = n) (hm : rs.map PmE.p = qs.map PmE.p) (h1 : Rd w w.heap.size 6 A n (pmCs qs)) (h2 : Rd w w.heap.size 6 B n (pmCs rs)) (hp : ∀ q ∈ qs, PartsAt w q.v q.p.parts) (hp' : ∀ q ∈ rs, PartsAt w q.v q.p.parts) (hn : n ≤ 1000) (hl : ∀ q ∈ qs, q.p.parts.length ≤ 1000) :
  Calls Tryz.prog 75 #[.slice A n c, .slice B n c'] w fun e w' => e = .returned (.bool true) ∧ Below w.heap.size w w' := by
 have hrl : rs.length = n := by have := congrArg List.length hm; simp at this; omega
 have hat : ∀ k (h : k < qs.length) (h' : k < rs.length), rs[k].p = qs[k].p := fun k h h' => by
  have e : (rs.map PmE.p)[k]? = (qs.map PmE.p)[k]? := by rw [hm]
  rw [List.getElem?_map, List.getElem?_map, List.getElem?_eq_getElem h', List.getElem?_eq_getElem h] at e
  simpa using e
 have HQ := hyd hq; have HRL := hyd hrl; have HAT := hyd hat; have H1 := hyd h1; have H2 := hyd h2; have HP := hyd hp; have HP' := hyd hp'; have HL := hyd hl
 clear hq hm h1 h2 hp hp' hl hrl hat
 go_enter Tryz.func75, Tryz.ntmps75
 go_wp2_with fail
 go_loopg [5] n (fun gh vi wr => ∃ k : Nat, gh = n - k ∧ k ≤ n ∧ vi = .int .i64 k ∧ Below w.heap.size w wr)
 case atStart => exact ⟨0, rfl, by omega, rfl, Below.refl _ _⟩
 case round =>
  obtain ⟨k, hgk, hk, rfl, hb⟩ := hrel
  have HG := hyd hgk; have HB := hyd hb
  by_cases hlt : k < n
  · have hkq : k < qs.length := by rw [HQ.out]; exact hlt
    have hkr : k < rs.length := by rw [HRL.out]; exact hlt
    obtain ⟨b1, o1, rfl, hb1, c0, c1, c2, c3, c4, c5⟩ := (H1.out.below hb).pm hkq
    obtain ⟨b2, o2, rfl, hb2, d0, d1, d2, d3, d4, d5⟩ := (H2.out.below hb).pm hkr
    have hpa := (HP.out _ (List.getElem_mem hkq)).below hb
    have hpb := (HP'.out _ (List.getElem_mem hkr)).below hb
    have he := HAT.out k hkq hkr
    have hln := HL.out _ (List.getElem_mem hkq)
    generalize qs[k] = x at *
    generalize rs[k] = y at *
    obtain ⟨p, xv⟩ := x
    obtain ⟨yp, yv⟩ := y
    simp only at he
    subst he
    obtain ⟨Av, cv, ev⟩ := hpa.form
    obtain ⟨Bv, cv', ev'⟩ := hpb.form
    simp only at ev ev'
    subst ev ev'
    obtain ⟨np, hnp⟩ : ∃ np, yp.parts.length = np := ⟨_, rfl⟩
    simp only [hnp] at hpa hpb c0 c1 c2 c3 c4 c5 d0 d1 d2 d3 d4 d5 hln
    have HS := hyd (fun j : Nat => sameItQ_any Av Bv yp.parts np np cv cv' (wr.drewN j) ((hpa.rd.2.2.2).drewN j) ((hpb.rd.2.2.2).drewN j) (by omega))
    have hb1r : b1 < wr.heap.size := Nat.lt_of_lt_of_le hb1 hb.size
    have hb2r : b2 < wr.heap.size := Nat.lt_of_lt_of_le hb2 hb.size
    have i1 : (0 : Int) ≤ (k : Int) := by omega
    have i2 : (k : Int) < (n : Int) := by omega
    clear hgk hb hpa hpb hnp hkq hkr
    go_wp2_with fail
    go_quiet ((go_at_call 28; exact Calls.quiet_of (HS.out _)))
    go_wp2_with fail
    go_quiet (fail)
    clear c0 c1 c2 c3 c4 c5 d0 d1 d2 d3 d4 d5
    go_wp2_with fail
    go_roundg (n - (k + 1))
    case measure => have := HG.out; omega
    case rel => exact ⟨k + 1, rfl, by omega, by go_num, by first | exact below_drewN HB.out _ | exact below_drewN (below_drewN HB.out _) _⟩
  · clear hgk hb
    go_wp2_with fail
    go_ret
    exact ⟨rfl, HB.out⟩
end Go.Proofs.YtbjjgnaojoaoiaaGreat
