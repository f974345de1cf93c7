/- ours; much; Flat; awake. -/
import Derived.Test.YtbjjgnaojoaoiaaGreatK43
import Derived.Test.YtbjjgnaojoaoiaaGreatK39
import Derived.Test.YtbjjgnaojoaoiaaGreatK36
import Derived.Test.YtbjjgnaojoaoiaaGreatK37
import Derived.Test.YtbjjgnaojoaoiaaGreatK24
import Derived.Test.YtbjjgnaojoaoiaaGreatK29
import Derived.Test.YtbjjgnaojoaoiaaGreatK26
import Derived.Test.YtbjjgnaojoaoiaaGreatK40
namespace Go.Proofs.YtbjjgnaojoaoiaaGreat
open Go.RowKit Go
set_option linter.unusedVariables false
set_option linter.unusedSimpArgs false

def MVZ : Obj := .cells #[.int .i64 0, .int .i64 0, .int .i64 0, .int .i64 0, .int .i64 0, .int .i64 0] 33
theorem ours0_facts (w : World) (t : Stp) : Below w.heap.size w ((w.alloc (stpO t)).alloc MVZ) ∧ ((w.alloc (stpO t)).alloc MVZ).heap[w.heap.size + 1]? = some (.cells #[.int .i64 0, .int .i64 0, .int .i64 0, .int .i64 0, .int .i64 0, .int .i64 0] 33 (0, 0)) ∧ ((w.alloc (stpO t)).alloc MVZ).heap.size = w.heap.size + 2 := by
  have hm := blk_new (w.alloc (stpO t)) (.cells #[.int .i64 0, .int .i64 0, .int .i64 0, .int .i64 0, .int .i64 0, .int .i64 0] 33) rfl
  simp only [World.size_alloc] at hm
  exact ⟨((Below.refl _ _).alloc (Nat.le_refl _) _).alloc (by simp) _, hm, by simp⟩
set_option maxHeartbeats 6400000 in
set_option maxRecDepth 100000 in
theorem ours_any (g B : Nat) (S : Ac) (t : Stp) (w : World) (h : OwnAt w B g S) (hG : Good S) (hr : Rd w w.heap.size 2 t.A t.s.bs.length (brCs t.s.bs)) :
    Calls Tryz.prog 20 #[.pointer (some ⟨g, 0, none⟩), stpV t] w (DoesOf w g S (stepS S t)) := by
  have hgl := h.lt
  obtain ⟨hb0, hm0, hz0⟩ := ours0_facts w t
  have HV0 := Lib.hid (h.below hb0)
  have HR0 := Lib.hid ((hr.below hb0).wider hb0.size)
  have n1 : w.heap.size + 1 ≠ g := by omega
  have HB0 := Lib.hid hb0; have HM0 := Lib.hid hm0; have HG := Lib.hid hG
  clear h hr hb0 hm0 hz0 hG
  by_cases h0 : t.act = 0
  · have HD := Lib.hid (file_any g B S t.A t.s.bs.length t.c t.s t.r _ HV0.out HG.out rfl HR0.out)
    have HS : Hid (stepS S t = fileS S t.s t.r) := Lib.hid (by unfold stepS; rw [if_pos h0])
    have e0 : (t.act == 0) = true := by simp [h0]
    clear h0 HV0 HR0
    go_enter Tryz.func20, Tryz.ntmps20
    go_wp2_with fail
    refine HD.out.mono ?_; intro e w1 hd
    obtain ⟨m, er, rfl⟩ := hd.form
    have hm := move_keeps hd HM0.out n1
    obtain ⟨m0, m1, m2, m3, m4, m5, m6⟩ := cells6U hm
    have HE := Lib.hid (DoesOf.wrap HB0.out hd hm (by omega)); have HM := Lib.hid (put6_at hm m)
    clear hd hm HD
    go_wp2_with fail
    rw [HS.out]
    exact mv_ret m er (w.heap.size + 1) rfl rfl rfl HM.out HE.out
  have e0 : (t.act == 0) = false := by simp [h0]
  by_cases h1 : t.act = 1
  · have HD := Lib.hid (uamend_any g B S t.A t.s.bs.length t.c t.s t.n t.a t.b _ HV0.out HG.out rfl HR0.out)
    have HS : Hid (stepS S t = amendS S t.s t.n t.a t.b) := Lib.hid (by unfold stepS; rw [if_neg h0, if_pos h1])
    have e1 : (t.act == 1) = true := by simp [h1]
    clear h0 h1 HV0 HR0
    go_enter Tryz.func20, Tryz.ntmps20
    go_wp2_with fail
    refine HD.out.mono ?_; intro e w1 hd
    obtain ⟨m, er, rfl⟩ := hd.form
    have hm := move_keeps hd HM0.out n1
    obtain ⟨m0, m1, m2, m3, m4, m5, m6⟩ := cells6U hm
    have HE := Lib.hid (DoesOf.wrap HB0.out hd hm (by omega)); have HM := Lib.hid (put6_at hm m)
    clear hd hm HD
    go_wp2_with fail
    rw [HS.out]
    exact mv_ret m er (w.heap.size + 1) rfl rfl rfl HM.out HE.out
  have e1 : (t.act == 1) = false := by simp [h1]
  by_cases h2 : t.act = 2
  · have HD := Lib.hid (pay_any0 g B S t.n t.a _ HV0.out HG.out)
    have HS : Hid (stepS S t = payS S t.n t.a) := Lib.hid (by unfold stepS; rw [if_neg h0, if_neg h1, if_pos h2])
    have e2 : (t.act == 2) = true := by simp [h2]
    clear h0 h1 h2 HV0 HR0
    go_enter Tryz.func20, Tryz.ntmps20
    go_wp2_with fail
    refine HD.out.mono ?_; intro e w1 hd
    obtain ⟨m, er, rfl⟩ := hd.form
    have hm := move_keeps hd HM0.out n1
    obtain ⟨m0, m1, m2, m3, m4, m5, m6⟩ := cells6U hm
    have HE := Lib.hid (DoesOf.wrap HB0.out hd hm (by omega)); have HM := Lib.hid (put6_at hm m)
    clear hd hm HD
    go_wp2_with fail
    rw [HS.out]
    exact mv_ret m er (w.heap.size + 1) rfl rfl rfl HM.out HE.out
  have e2 : (t.act == 2) = false := by simp [h2]
  by_cases h3 : t.act = 3
  · have HD := Lib.hid (reverse_any g B S t.n _ HV0.out HG.out)
    have HS : Hid (stepS S t = reverseS S t.n) := Lib.hid (by unfold stepS; rw [if_neg h0, if_neg h1, if_neg h2, if_pos h3])
    have e3 : (t.act == 3) = true := by simp [h3]
    clear h0 h1 h2 h3 HV0 HR0
    go_enter Tryz.func20, Tryz.ntmps20
    go_wp2_with fail
    refine HD.out.mono ?_; intro e w1 hd
    obtain ⟨m, er, rfl⟩ := hd.form
    have hm := move_keeps hd HM0.out n1
    obtain ⟨m0, m1, m2, m3, m4, m5, m6⟩ := cells6U hm
    have HE := Lib.hid (DoesOf.wrap HB0.out hd hm (by omega)); have HM := Lib.hid (put6_at hm m)
    clear hd hm HD
    go_wp2_with fail
    rw [HS.out]
    exact mv_ret m er (w.heap.size + 1) rfl rfl rfl HM.out HE.out
  have e3 : (t.act == 3) = false := by simp [h3]
  by_cases h4 : t.act = 4
  · have HD := Lib.hid (offset_any g B S t.a _ HV0.out HG.out)
    have HS : Hid (stepS S t = offsetS S t.a) := Lib.hid (by unfold stepS; rw [if_neg h0, if_neg h1, if_neg h2, if_neg h3, if_pos h4])
    have e4 : (t.act == 4) = true := by simp [h4]
    clear h0 h1 h2 h3 h4 HV0 HR0
    go_enter Tryz.func20, Tryz.ntmps20
    go_wp2_with fail
    refine HD.out.mono ?_; intro e w1 hd
    obtain ⟨m, er, rfl⟩ := hd.form
    have hm := move_keeps hd HM0.out n1
    obtain ⟨m0, m1, m2, m3, m4, m5, m6⟩ := cells6U hm
    have HE := Lib.hid (DoesOf.wrap HB0.out hd hm (by omega)); have HM := Lib.hid (put6_at hm m)
    clear hd hm HD
    go_wp2_with fail
    rw [HS.out]
    exact mv_ret m er (w.heap.size + 1) rfl rfl rfl HM.out HE.out
  have e4 : (t.act == 4) = false := by simp [h4]
  by_cases h5 : t.act = 5
  · have HD := Lib.hid (refund_any g B S t.a _ HV0.out HG.out.small HG.out.cr.2)
    have HS : Hid (stepS S t = refundS S t.a) := Lib.hid (by unfold stepS; rw [if_neg h0, if_neg h1, if_neg h2, if_neg h3, if_neg h4, if_pos h5])
    have e5 : (t.act == 5) = true := by simp [h5]
    clear h0 h1 h2 h3 h4 h5 HV0 HR0
    go_enter Tryz.func20, Tryz.ntmps20
    go_wp2_with fail
    refine HD.out.mono ?_; intro e w1 hd
    obtain ⟨m, er, rfl⟩ := hd.form
    have hm := move_keeps hd HM0.out n1
    obtain ⟨m0, m1, m2, m3, m4, m5, m6⟩ := cells6U hm
    have HE := Lib.hid (DoesOf.wrap HB0.out hd hm (by omega)); have HM := Lib.hid (put6_at hm m)
    clear hd hm HD
    go_wp2_with fail
    rw [HS.out]
    exact mv_ret m er (w.heap.size + 1) rfl rfl rfl HM.out HE.out
  have e5 : (t.act == 5) = false := by simp [h5]
  have HD := Lib.hid (uadvance_any g B S t.n _ HV0.out HG.out)
  have HS : Hid (stepS S t = advanceS S t.n) := Lib.hid (by unfold stepS; rw [if_neg h0, if_neg h1, if_neg h2, if_neg h3, if_neg h4, if_neg h5])
  clear h0 h1 h2 h3 h4 h5 HV0 HR0
  go_enter Tryz.func20, Tryz.ntmps20
  go_wp2_with fail
  refine HD.out.mono ?_; intro e w1 hd
  obtain ⟨m, er, rfl⟩ := hd.form
  have hm := move_keeps hd HM0.out n1
  obtain ⟨m0, m1, m2, m3, m4, m5, m6⟩ := cells6U hm
  have HE := Lib.hid (DoesOf.wrap HB0.out hd hm (by omega)); have HM := Lib.hid (put6_at hm m)
  clear hd hm HD
  go_wp2_with fail
  rw [HS.out]
  exact mv_ret m er (w.heap.size + 1) rfl rfl rfl HM.out HE.out
def SomeB (w : World) (e : Ending) (w' : World) : Prop := (∃ b : Bool, e = .returned (.bool b)) ∧ w = w'
set_option maxHeartbeats 1600000 in
set_option maxRecDepth 100000 in
theorem much_any (A : Option Addr) (n c : Nat) (l : List Stp) (w : World) (h : RdS w A n l) (hm : n ≤ maxLen) :
    Calls Tryz.prog 19 #[.slice A n c] w (SomeB w) := by
  unfold maxLen at hm
  have HR := Lib.hid h
  have HN := Lib.hid h.len
  clear h
  go_enter Tryz.func19, Tryz.ntmps19
  go_wp2_with fail
  go_loop [3] (fun v3 => ∃ k : Nat, k ≤ n ∧ v3 = .int .i64 k) (fun v3 => n - (intOf v3).toNat)
  case atStart => exact ⟨0, by omega, rfl⟩
  case round =>
    obtain ⟨k, hk, rfl⟩ := hrel
    by_cases hlt : k < n
    · have hkl : k < l.length := by have := HN.out; omega
      obtain ⟨b, off, rfl, hb, hst⟩ := HR.out.at_ hkl
      have c1 := hst.c1
      have i1 : (0 : Int) ≤ (k : Int) := by omega
      have i2 : (k : Int) < (n : Int) := by omega
      clear hst
      by_cases h100 : k < 100
      · have hd : decide ((k : Int) < 100) = true := by simp; omega
        by_cases hbig : 100 < (l[k]).s.bs.length
        · have hd2 : decide (((l[k]).s.bs.length : Int) > 100) = true := by simp; omega
          go_wp2_with fail
          all_goals go_ret
          all_goals exact ⟨⟨_, rfl⟩, rfl⟩
        · have hd2 : decide (((l[k]).s.bs.length : Int) > 100) = false := by simp; omega
          go_wp2_with fail
          go_round
          case rel => exact ⟨k + 1, by omega, by go_num⟩
          case measure => simp [intOf]; omega
      · have hd : decide ((k : Int) < 100) = false := by simp; omega
        go_wp2_with fail
        all_goals go_ret
        all_goals exact ⟨⟨_, rfl⟩, rfl⟩
    · go_wp2_with fail
      all_goals go_ret
      all_goals exact ⟨⟨_, rfl⟩, rfl⟩
end Go.Proofs.YtbjjgnaojoaoiaaGreat
