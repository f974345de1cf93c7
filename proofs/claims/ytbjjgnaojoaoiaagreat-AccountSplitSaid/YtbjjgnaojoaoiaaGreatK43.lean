/- Amend. -/
import Derived.Test.YtbjjgnaojoaoiaaGreatK42
namespace Go.Proofs.YtbjjgnaojoaoiaaGreat
open Go.RowKit Go
set_option linter.unusedVariables false
set_option linter.unusedSimpArgs false

@[reducible] def amW0 (w : World) (A : Option Addr) (n c : Nat) (s : Sch) (per inc wh : Int) : World := ((((w.alloc (.cells #[.slice A n c, .int .i64 s.ded, .int .i64 s.cred, .int .i64 s.lbp, .int .i64 s.most, .int .i64 s.least] 24)).alloc (.cells #[.int .i64 per] 3)).alloc (.cells #[.int .i64 inc] 2)).alloc (.cells #[.int .i64 wh] 2)).alloc (.cells #[.int .i64 0, .int .i64 0, .int .i64 0, .int .i64 0, .int .i64 0, .int .i64 0] 33)
structure AmW (w X : World) (A : Option Addr) (n c : Nat) (s : Sch) (per inc wh : Int) : Prop where
  bel : Below w.heap.size w X
  sc : X.heap[w.heap.size]? = some (.cells #[.slice A n c, .int .i64 s.ded, .int .i64 s.cred, .int .i64 s.lbp, .int .i64 s.most, .int .i64 s.least] 24 (0, 0))
  nn : X.heap[w.heap.size + 1]? = some (.cells #[.int .i64 per] 3 (0, 0))
  i : X.heap[w.heap.size + 1 + 1]? = some (.cells #[.int .i64 inc] 2 (0, 0))
  wh : X.heap[w.heap.size + 1 + 1 + 1]? = some (.cells #[.int .i64 wh] 2 (0, 0))
  m : X.heap[w.heap.size + 1 + 1 + 1 + 1]? = some (.cells #[.int .i64 0, .int .i64 0, .int .i64 0, .int .i64 0, .int .i64 0, .int .i64 0] 33 (0, 0))
theorem AmW.up {w X Y : World} {A : Option Addr} {n c : Nat} {s : Sch} {per inc wh : Int} (h : AmW w X A n c s per inc wh) (hb : Below X.heap.size X Y) : AmW w Y A n c s per inc wh :=
  ⟨h.bel.trans (hb.mono h.bel.size), blk_below h.sc hb (blk_lt h.sc), blk_below h.nn hb (blk_lt h.nn), blk_below h.i hb (blk_lt h.i), blk_below h.wh hb (blk_lt h.wh), blk_below h.m hb (blk_lt h.m)⟩
theorem amW0_facts (w : World) (A : Option Addr) (n c : Nat) (s : Sch) (per inc wh : Int) : AmW w (amW0 w A n c s per inc wh) A n c s per inc wh :=
  ⟨(((((Below.refl _ _).alloc (Nat.le_refl _) _).alloc (by simp) _).alloc (by simp; omega) _).alloc (by simp; omega) _).alloc (by simp; omega) _,
   blk_alloc (blk_alloc (blk_alloc (blk_alloc (blk_new w _ rfl) _) _) _) _, blk_alloc (blk_alloc (blk_alloc (blk_new _ _ (by simp)) _) _) _, blk_alloc (blk_alloc (blk_new _ _ (by simp)) _) _, blk_alloc (blk_new _ _ (by simp)) _, blk_new _ _ (by simp)⟩
set_option maxHeartbeats 6400000 in
set_option maxRecDepth 100000 in
theorem uamend_any (g B : Nat) (S : Ac) (A : Option Addr) (n c : Nat) (s : Sch) (per inc wh : Int) (w : World) (h : OwnAt w B g S) (hG : Good S) (hn : s.bs.length = n) (hr : Rd w w.heap.size 2 A n (brCs s.bs)) :
    Calls Tryz.prog 55 #[.pointer (some ⟨g, 0, none⟩), schV A n c s, .int .i64 per, .int .i64 inc, .int .i64 wh] w (DoesOf w g S (amendS S s per inc wh)) := by
  have hgl := h.lt
  have HV := Lib.hid h
  have hw0 := amW0_facts w A n c s per inc wh
  have HR := Lib.hid hr; have HN := Lib.hid hn; have HG := Lib.hid hG
  obtain ⟨vp, vq, qs, hov⟩ := h
  have hov0 := hov.below hw0.bel
  have hnp := hG.np
  have HF := Lib.hid (find_any g B S vp vq qs per _ hov0 (by omega))
  have HOV0 := Lib.hid hov0
  have cn : (amW0 w A n c s per inc wh).cell? ⟨w.heap.size + 1, 0, none⟩ = some (.int .i64 per) := (blk_cell hw0.nn 0).trans rfl
  have hnl := blk_lt hw0.nn
  have n1 : w.heap.size + 1 + 1 + 1 + 1 ≠ g := by omega
  have hmf : ∀ (fn : Fn) (first cap : Array Value) (w : World), (Instr.makeFunc fn first cap).run Tryz.prog w = .ok (.func fn first cap) w := fun _ _ _ _ => rfl
  have HW0 := Lib.hid hw0
  clear hov hov0 hr hn hG hw0
  go_enter Tryz.func55, Tryz.ntmps55
  go_wp2_with fail
  refine HF.out.mono ?_; rintro e w1 ⟨hb1, hh⟩
  have hw1 := HW0.out.up hb1
  have hov1 := HOV0.out.below hb1
  obtain ⟨m0, m1, m2, m3, m4, m5, m6⟩ := cells6U hw1.m
  have hml := blk_lt hw1.m
  have HW1 := Lib.hid hw1; have HOV1 := Lib.hid hov1
  clear hb1 hw1 hov1 HF cn hnl HW0 HOV0
  rcases hh with ⟨hpl, rfl⟩ | ⟨gp, cap, i, _, hi, hpl, rfl⟩
  · have HO : Hid (amendS S s per inc wh = (S, Mv.zero, 4)) := Lib.hid (by unfold amendS; rw [if_pos hpl])
    have HE := Lib.hid (err_end (S' := S) (m := Mv.zero) HW1.out.bel HV.out (show (4 : Int) ≠ 0 by decide) HW1.out.m (by omega))
    clear hpl
    go_wp2_with fail
    rw [HO.out]
    exact mv_ret Mv.zero 4 (w.heap.size + 1 + 1 + 1 + 1) rfl rfl rfl HE.out.1 HE.out.2
  · have hgd : S.ps.getD (S.place per).toNat Per.zero = S.ps[i]'hi := by
      rw [hpl, Int.toNat_natCast, List.getD_eq_getElem?_getD, List.getElem?_eq_getElem hi]; rfl
    have HO : Hid (amendS S s per inc wh = amend1 S s i (S.ps[i]'hi) inc wh) := Lib.hid (by unfold amendS; rw [if_neg (by omega), hgd, hpl, Int.toNat_natCast])
    have HD := Lib.hid (does4_any 114 (.pointer (some ⟨w.heap.size + 1, 0, none⟩)) (.pointer (some ⟨w.heap.size + 1 + 1, 0, none⟩)) (.pointer (some ⟨w.heap.size + 1 + 1 + 1, 0, none⟩)) (.pointer (some ⟨w.heap.size, 0, none⟩)) g B S (amend1 S s i (S.ps[i]'hi) inc wh) w1 ⟨_, _, _, HOV1.out⟩ HG.out.small (fun u wx => by kernel_rfl)
      (fun gb wy hby hBy ho => by
        have hwy := HW1.out.up hby
        exact amend1_any gb _ (w.heap.size + 1) (w.heap.size + 1 + 1) (w.heap.size + 1 + 1 + 1) w.heap.size S A n c s per inc wh i wy ho hBy hwy.nn hwy.i hwy.wh hwy.sc HG.out HN.out ((HR.out.below hwy.bel).wider hwy.bel.size) hpl hi))
    clear hpl hgd
    go_wp2_with fail
    refine HD.out.mono ?_; intro e w2 hd
    obtain ⟨m, er, rfl⟩ := hd.form
    have hm := move_keeps hd HW1.out.m n1
    clear m0 m1 m2 m3 m4 m5 m6
    obtain ⟨m0, m1, m2, m3, m4, m5, m6⟩ := cells6U hm
    have HE := Lib.hid (DoesOf.wrap HW1.out.bel hd hm (by omega)); have HM := Lib.hid (put6_at hm m)
    clear hd hm HD
    go_wp2_with fail
    rw [HO.out]
    exact mv_ret m er (w.heap.size + 1 + 1 + 1 + 1) rfl rfl rfl HM.out HE.out
end Go.Proofs.YtbjjgnaojoaoiaaGreat
