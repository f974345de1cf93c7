/- Refund, spends. -/
import Derived.Test.YtbjjgnaojoaoiaaGreatK15
namespace Go.Proofs.YtbjjgnaojoaoiaaGreat
open Go.RowKit Go
set_option linter.unusedVariables false
set_option linter.unusedSimpArgs false

theorem box_cell {w w' : World} {g : Nat} {v : Value} (h : w.cell? ⟨g, 0, none⟩ = some v) (hl : g < w.heap.size) (hb : Below w.heap.size w w') : w'.cell? ⟨g, 0, none⟩ = some v := (hb.cell (p := ⟨g, 0, none⟩) hl).trans h
set_option maxHeartbeats 3200000 in
set_option maxRecDepth 100000 in
theorem refund1_any (gb B ga : Nat) (S : Ac) (a : Int) (w : World) (h : OwnAt w B gb S) (hB : B ≤ w.heap.size) (ha : w.cell? ⟨ga, 0, none⟩ = some (.int .i64 a)) (hga : ga < w.heap.size) (hne : ga ≠ gb)
    (h1 : 0 ≤ S.cr - a ∧ S.cr - a ≤ 4611686018427387904) (h2 : 1 ≤ a ∧ a ≤ 1125899906842624) :
    Calls Tryz.prog 59 #[.pointer (some ⟨gb, 0, none⟩), .pointer (some ⟨ga, 0, none⟩)] w (StepOf w B gb ({ S with cr := S.cr - a }, ⟨0, 0, 0, 0, -a, -a⟩, 0)) := by
  obtain ⟨vp, vq, qs, h⟩ := h
  obtain ⟨a0, a1, a2, a3, a4, a5⟩ := cells5U h.hg
  have hgl := blk_lt h.hg
  have hw1 : IntKind.i64.wrap (S.cr - a) = S.cr - a := IntWalk.i64_in _ (by omega)
  have hw2 : IntKind.i64.wrap (-a) = -a := IntWalk.i64_in _ (by omega)
  have HV := Lib.hid h
  have hBg := h.hB
  have n1 : gb ≠ w.heap.size := by omega
  have n2 : ga ≠ w.heap.size := by omega
  have n3 : w.heap.size ≠ gb := by omega
  have n4 : gb ≠ ga := by omega
  clear h a0 a1 a3 a4
  go_enter Tryz.func59, Tryz.ntmps59
  go_wp2_with fail
  go_region_with (fail)
  all_goals go_wp2_with fail
  all_goals
    refine bodyPost_ret (results_row_tmpB rfl _ _ w.heap.size 33 #[.int .i64 0, .int .i64 0, .int .i64 0, .int .i64 0, .int .i64 (-a), .int .i64 (-a)] (0, 0) _ (by rfl) (blk_new (w.setCell ⟨gb, 2, none⟩ (.int .i64 (S.cr - a))) (.cells #[.int .i64 0, .int .i64 0, .int .i64 0, .int .i64 0, .int .i64 (-a), .int .i64 (-a)] 33) (by simp)) Tryz.underlying33 rfl (by kernel_rfl)) rfl ?_
    refine ⟨(by repeat' (first | (with_reducible exact Below.refl _ _) | (with_reducible refine Below.alloc ?_ ?_ _) | (with_reducible refine below_drewN ?_ _) | (with_reducible refine Below.drew ?_) | (with_reducible refine Below.setCell ?_ ?_ _) | (with_reducible refine Below.trans ?_ (Below.mono HW0.out ?_)) | (with_reducible refine Below.trans ?_ (Below.mono HW1.out ?_)) | (with_reducible refine Below.trans ?_ (Below.mono HW2.out ?_)) | (with_reducible refine Below.trans ?_ (Below.mono HW3.out ?_)) | (with_reducible refine Below.trans ?_ (Below.mono HW4.out ?_)) | (with_reducible refine Below.trans ?_ (Below.mono HW5.out ?_)) | (with_reducible refine Below.trans ?_ (Below.mono HW6.out ?_)) | (with_reducible refine Below.trans ?_ (Below.mono HW7.out ?_)) | (with_reducible exact Nat.le_refl _) | omega | (simp only [World.size_alloc, World.size_setCell, World.size_drew, size_drewN]; omega) | (simp; done) | (simp; omega))), .inl ⟨rfl, rfl, vp, vq, qs, ?_⟩⟩
    have p := (Puts.start (b := gb) (Below.refl w.heap.size w)).set 2 (.int .i64 (S.cr - a))
    exact (HV.out.setCr p).below ((Below.refl _ _).alloc (Nat.le_refl _) _).drew
/-- An account, and a box of a call. -/
theorem OwnAt.lt {w : World} {B g : Nat} {S : Ac} (h : OwnAt w B g S) : g < w.heap.size := by obtain ⟨_, _, _, h⟩ := h; exact blk_lt h.hg
theorem OwnAt.cell {w : World} {B g : Nat} {S : Ac} (h : OwnAt w B g S) : ∃ vp vq, w.heap[g]? = some (.cells #[.int .i64 S.day, .int .i64 S.bp, .int .i64 S.cr, vp, vq] 83 (0, 0)) := by obtain ⟨vp, vq, _, h⟩ := h; exact ⟨vp, vq, h.hg⟩
set_option maxHeartbeats 3200000 in
set_option maxRecDepth 100000 in
/-- spends: a step with a part of the credit, or an error. -/
theorem spends_any (K : Nat) (c1 : Value) (g B : Nat) (S : Ac) (a : Int) (r : Ac × Mv × Int) (w : World) (h : OwnAt w B g S) (hS : S.small)
    (hcf : ∀ (u : Value) (wx : World), (callFunc K #[u, c1]).run Tryz.prog wx = .ok (.enter K #[u, c1]) wx)
    (hK : (1 ≤ a ∧ a ≤ 1125899906842624) → a ≤ S.cr → ∀ (gb B : Nat) (wx : World), w.heap.size ≤ B → Below w.heap.size w wx → B ≤ wx.heap.size → OwnAt wx B gb S → Calls Tryz.prog K #[.pointer (some ⟨gb, 0, none⟩), c1] wx (StepOf wx B gb r)) :
    Calls Tryz.prog 58 #[.pointer (some ⟨g, 0, none⟩), .int .i64 a, .func (.func K) #[] #[c1]] w (DoesOf w g S (if ¬ (1 ≤ a ∧ a ≤ 1125899906842624) then (S, Mv.zero, 1) else if S.cr < a then (S, Mv.zero, 2) else r)) := by
  have HV := Lib.hid h
  obtain ⟨vp, vq, hg⟩ := h.cell
  obtain ⟨a0, a1, a2, a3, a4, a5⟩ := cells5U hg
  have hgl := blk_lt hg
  have n1 : g ≠ w.heap.size := by omega
  have n2 : w.heap.size ≠ g := by omega
  clear h hg a0 a1 a3 a4
  by_cases ha : 1 ≤ a ∧ a ≤ 1125899906842624
  · rw [if_neg (by simpa using ha)]
    have HA := Lib.hid ha
    have hy := fun wx => uwithin64_yes a 1 1125899906842624 wx ha
    have HY := Lib.hid hy
    by_cases hc : S.cr < a
    · rw [if_pos hc]
      clear ha hy hK
      have hdc : decide (a > S.cr) = true := by simpa using hc
      go_enter Tryz.func58, Tryz.ntmps58
      go_wp2_with fail
      refine (HY.out _).mono ?_; rintro e w1 ⟨rfl, rfl⟩
      go_wp2_with fail
      refine mv_ret Mv.zero 2 w.heap.size rfl rfl rfl (blk_new _ _ rfl) (does_err (by repeat' (first | (with_reducible exact Below.refl _ _) | (with_reducible refine Below.alloc ?_ ?_ _) | (with_reducible refine below_drewN ?_ _) | (with_reducible refine Below.drew ?_) | (with_reducible refine Below.setCell ?_ ?_ _) | (with_reducible refine Below.trans ?_ (Below.mono HW0.out ?_)) | (with_reducible refine Below.trans ?_ (Below.mono HW1.out ?_)) | (with_reducible refine Below.trans ?_ (Below.mono HW2.out ?_)) | (with_reducible refine Below.trans ?_ (Below.mono HW3.out ?_)) | (with_reducible refine Below.trans ?_ (Below.mono HW4.out ?_)) | (with_reducible refine Below.trans ?_ (Below.mono HW5.out ?_)) | (with_reducible refine Below.trans ?_ (Below.mono HW6.out ?_)) | (with_reducible refine Below.trans ?_ (Below.mono HW7.out ?_)) | (with_reducible exact Nat.le_refl _) | omega | (simp only [World.size_alloc, World.size_setCell, World.size_drew, size_drewN]; omega) | (simp; done) | (simp; omega))) HV.out (by decide))
    · rw [if_neg hc]
      have hcc : a ≤ S.cr := by omega
      have hdc : decide (a > S.cr) = false := by simpa using hcc
      have hb0 : Below w.heap.size w (w.alloc (.cells #[.int .i64 0, .int .i64 0, .int .i64 0, .int .i64 0, .int .i64 0, .int .i64 0] 33)) := (Below.refl _ _).alloc (Nat.le_refl _) _
      have HD := Lib.hid (does1_any K c1 g B S r (w.alloc (.cells #[.int .i64 0, .int .i64 0, .int .i64 0, .int .i64 0, .int .i64 0, .int .i64 0] 33)) (HV.out.below hb0) hS hcf (fun gb wx h1 h2 h3 => hK ha hcc gb _ wx (by have := hb0.size; omega) (hb0.trans (h1.mono hb0.size)) h2 h3))
      have HB0 := Lib.hid hb0
      clear ha hy hK hc hb0 hcf hS
      go_enter Tryz.func58, Tryz.ntmps58
      go_wp2_with fail
      refine (HY.out _).mono ?_; rintro e w1 ⟨rfl, rfl⟩
      go_wp2_with fail
      refine HD.out.mono ?_; intro e w1 hd
      obtain ⟨m, er, rfl⟩ := hd.form
      have hm := move_keeps hd (blk_new w (.cells #[.int .i64 0, .int .i64 0, .int .i64 0, .int .i64 0, .int .i64 0, .int .i64 0] 33) rfl) n2
      obtain ⟨m0, m1, m2, m3, m4, m5, m6⟩ := cells6U hm
      have HE := Lib.hid (DoesOf.wrap HB0.out hd hm (Nat.le_refl _)); have HM := Lib.hid (put6_at hm m)
      clear hd hm
      go_wp2_with fail
      exact mv_ret m er w.heap.size rfl rfl rfl HM.out HE.out
  · rw [if_pos ha]
    have hy := fun wx => uwithin64_no a 1 1125899906842624 wx ha
    have HY := Lib.hid hy
    clear ha hK
    go_enter Tryz.func58, Tryz.ntmps58
    go_wp2_with fail
    refine (HY.out _).mono ?_; rintro e w1 ⟨rfl, rfl⟩
    go_wp2_with fail
    refine mv_ret Mv.zero 1 w.heap.size rfl rfl rfl (blk_new _ _ rfl) (does_err (by repeat' (first | (with_reducible exact Below.refl _ _) | (with_reducible refine Below.alloc ?_ ?_ _) | (with_reducible refine below_drewN ?_ _) | (with_reducible refine Below.drew ?_) | (with_reducible refine Below.setCell ?_ ?_ _) | (with_reducible refine Below.trans ?_ (Below.mono HW0.out ?_)) | (with_reducible refine Below.trans ?_ (Below.mono HW1.out ?_)) | (with_reducible refine Below.trans ?_ (Below.mono HW2.out ?_)) | (with_reducible refine Below.trans ?_ (Below.mono HW3.out ?_)) | (with_reducible refine Below.trans ?_ (Below.mono HW4.out ?_)) | (with_reducible refine Below.trans ?_ (Below.mono HW5.out ?_)) | (with_reducible refine Below.trans ?_ (Below.mono HW6.out ?_)) | (with_reducible refine Below.trans ?_ (Below.mono HW7.out ?_)) | (with_reducible exact Nat.le_refl _) | omega | (simp only [World.size_alloc, World.size_setCell, World.size_drew, size_drewN]; omega) | (simp; done) | (simp; omega))) HV.out (by decide))
set_option maxHeartbeats 3200000 in
set_option maxRecDepth 100000 in
theorem refund_any (g B : Nat) (S : Ac) (a : Int) (w : World) (h : OwnAt w B g S) (hS : S.small) (hc : S.cr ≤ 4611686018427387904) :
    Calls Tryz.prog 24 #[.pointer (some ⟨g, 0, none⟩), .int .i64 a] w (DoesOf w g S (refundS S a)) := by
  have hgl := h.lt
  have hb0 : Below w.heap.size w ((w.alloc (.cells #[.int .i64 a] 2)).alloc (.cells #[.int .i64 0, .int .i64 0, .int .i64 0, .int .i64 0, .int .i64 0, .int .i64 0] 33)) := ((Below.refl _ _).alloc (Nat.le_refl _) _).alloc (by simp) _
  have hbx : ((w.alloc (.cells #[.int .i64 a] 2)).alloc (.cells #[.int .i64 0, .int .i64 0, .int .i64 0, .int .i64 0, .int .i64 0, .int .i64 0] 33)).cell? ⟨w.heap.size, 0, none⟩ = some (.int .i64 a) := (blk_cell (blk_alloc (blk_new w (.cells #[.int .i64 a] 2) rfl) _) 0).trans rfl
  have hz0 : ((w.alloc (.cells #[.int .i64 a] 2)).alloc (.cells #[.int .i64 0, .int .i64 0, .int .i64 0, .int .i64 0, .int .i64 0, .int .i64 0] 33)).heap.size = w.heap.size + 2 := by simp
  have HD := Lib.hid (spends_any 59 (.pointer (some ⟨w.heap.size, 0, none⟩)) g B S a ({ S with cr := S.cr - a }, ⟨0, 0, 0, 0, -a, -a⟩, 0) _ (h.below hb0) hS (fun u wx => by kernel_rfl)
    (fun h1 h2 gb B' wx hB hb hBx ho => by
      have hx := box_cell hbx (by rw [hz0]; omega) hb
      obtain ⟨_, _, _, hov⟩ := ho
      have := hov.hB
      exact refund1_any gb B' w.heap.size S a wx ⟨_, _, _, hov⟩ hBx hx (by omega) (by omega) (by omega) h1))
  have HB0 := Lib.hid hb0
  have hm0 := blk_new (w.alloc (.cells #[.int .i64 a] 2)) (.cells #[.int .i64 0, .int .i64 0, .int .i64 0, .int .i64 0, .int .i64 0, .int .i64 0] 33) rfl
  have HM0 := Lib.hid hm0
  have n1 : w.heap.size + 1 ≠ g := by omega
  have hmf : ∀ (fn : Fn) (first cap : Array Value) (w : World), (Instr.makeFunc fn first cap).run Tryz.prog w = .ok (.func fn first cap) w := fun _ _ _ _ => rfl
  clear h hb0 hbx hm0
  go_enter Tryz.func24, Tryz.ntmps24
  go_wp2_with fail
  refine HD.out.mono ?_; intro e w1 hd
  obtain ⟨m, er, rfl⟩ := hd.form
  have hm := move_keeps hd HM0.out (by simp; omega)
  simp only [World.size_alloc] at hm
  obtain ⟨m0, m1, m2, m3, m4, m5, m6⟩ := cells6U hm
  have HE := Lib.hid (DoesOf.wrap HB0.out hd hm (by omega)); have HM := Lib.hid (put6_at hm m)
  clear hd hm HD
  go_wp2_with fail
  exact mv_ret m er (w.heap.size + 1) rfl rfl rfl HM.out HE.out
end Go.Proofs.YtbjjgnaojoaoiaaGreat
