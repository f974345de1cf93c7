/- Offset. -/
import Derived.Test.YtbjjgnaojoaoiaaGreatK16
import Derived.Test.YtbjjgnaojoaoiaaGreatK20
namespace Go.Proofs.YtbjjgnaojoaoiaaGreat
open Go.RowKit Go
set_option linter.unusedVariables false
set_option linter.unusedSimpArgs false

/-- A box that is no row of periods is as it was. -/
theorem Turn.box {w w' : World} {B g : Nat} {S : Ac} {vp vq : Value} {qs : List PmE} {cs : Array Value} {t : Nat} {fr : Nat × Nat} {k : Nat} (h : Turn w B vp w') (ho : OwnV w B g S vp vq qs) (hk : w.heap[k]? = some (.cells cs t fr)) (ht : t ≠ 92) : w'.heap[k]? = some (.cells cs t fr) := by
  refine (h.gr.block k (blk_lt hk) (fun e => ?_)).trans hk
  obtain ⟨_, cs', hcs⟩ := own_block_type ho.hp e.symm
  exact ne_of_type' hk hcs ht rfl
theorem leftI_bd {its : List Dq} {a : Int} (h : placesE its = 0) (ha : 0 ≤ a) : 0 ≤ leftI its a ∧ leftI its a ≤ a := by
  have := opens_nonneg (placesE_ok h).2.1
  unfold leftI; omega
set_option maxHeartbeats 3200000 in
set_option maxRecDepth 100000 in
theorem offset1_any (gb B ga : Nat) (S : Ac) (a : Int) (w : World) (h : OwnAt w B gb S) (hB : B ≤ w.heap.size) (ha : w.heap[ga]? = some (.cells #[.int .i64 a] 2 (0, 0))) (hG : Good S) (hc : a ≤ S.cr) (h2 : 1 ≤ a ∧ a ≤ 1125899906842624) :
    Calls Tryz.prog 60 #[.pointer (some ⟨gb, 0, none⟩), .pointer (some ⟨ga, 0, none⟩)] w (StepOf w B gb (offset1 S a)) := by
  obtain ⟨vp, vq, qs, h⟩ := h
  have hPF := pay_facts hG.day hG.bp hG.rise hG.per (by have := hG.np; omega) (show 0 ≤ a by omega)
  have hBg := h.hB
  have hgl := blk_lt h.hg
  have hal := blk_lt ha
  have hb0 : Below w.heap.size w (w.alloc (.cells #[.int .i64 0, .int .i64 0, .int .i64 0, .int .i64 0, .int .i64 0, .int .i64 0] 33)) := bnewU _ _
  have hv0 := h.below hb0
  have HP := Lib.hid (upay_any gb B S vp vq qs a _ hv0 (Nat.le_trans hB hb0.size) (by have := hG.np; omega) (by omega) hG.day hG.places hPF.1)
  obtain ⟨ps, hgs, hit, hret, hok, hrise⟩ := hPF.2
  have HGS := Lib.hid hgs
  have HV0 := Lib.hid hv0; have HB0 := Lib.hid hb0
  have hlb := leftI_bd hG.places (show 0 ≤ a by omega)
  have HO : Hid (offset1 S a = ({ S with ps := ps, cr := S.cr - (a - leftI (itemsOf S.ps) a) }, ⟨0, 0, 0, a - leftI (itemsOf S.ps) a, leftI (itemsOf S.ps) a - a, 0⟩, 0)) := Lib.hid (by unfold offset1; rw [hgs])
  have hcr := hG.cr
  have HA0 := Lib.hid (blk_alloc ha (.cells #[.int .i64 0, .int .i64 0, .int .i64 0, .int .i64 0, .int .i64 0, .int .i64 0] 33))
  have HM0 := Lib.hid (blk_new w (.cells #[.int .i64 0, .int .i64 0, .int .i64 0, .int .i64 0, .int .i64 0, .int .i64 0] 33) rfl)
  have ca0 : w.cell? ⟨ga, 0, none⟩ = some (.int .i64 a) := (blk_cell ha 0).trans rfl
  have n2 : ga ≠ w.heap.size := by omega
  obtain ⟨rest, hrest⟩ : ∃ rest, leftI (itemsOf S.ps) a = rest := ⟨_, rfl⟩
  rw [hrest] at hlb HO
  have HR := Lib.hid hrest
  have w1' : IntKind.i64.wrap (a - rest) = a - rest := IntWalk.i64_in _ (by omega)
  have w2' : IntKind.i64.wrap (S.cr - (a - rest)) = S.cr - (a - rest) := IntWalk.i64_in _ (by omega)
  have w3' : IntKind.i64.wrap (rest - a) = rest - a := IntWalk.i64_in _ (by omega)
  clear h hPF hb0 hv0 hgs hit hret hok hrise ha hrest hG
  go_enter Tryz.func60, Tryz.ntmps60
  go_wp2_with fail
  refine HP.out.mono ?_; rintro e w1 ⟨ht, hm⟩
  rw [HGS.out] at hm
  obtain ⟨A, c, rfl, ho1, hpt1, hl1⟩ := hm
  rw [HR.out]
  have ha1 := ht.box HV0.out HA0.out (by decide)
  have hm1 := ht.box HV0.out HM0.out (by decide)
  obtain ⟨a0, a1, a2, a3, a4, a5⟩ := cells5U ho1.hg
  have ca1 : w1.cell? ⟨ga, 0, none⟩ = some (.int .i64 a) := (blk_cell ha1 0).trans rfl
  obtain ⟨m0, m1, m2, m3, m4, m5, m6⟩ := cells6U hm1
  have hgl1 := blk_lt ho1.hg
  have hgne : gb ≠ ga := ne_of_type' ho1.hg ha1 (by decide)
  have hgnm : w.heap.size ≠ gb := fun e => by rw [e] at hm1; exact ne_of_type' ho1.hg hm1 (by decide) rfl
  have hgnm' : gb ≠ w.heap.size := fun e => hgnm e.symm
  have hml1 := blk_lt hm1
  have HT := Lib.hid ht; have HO1 := Lib.hid ho1; have HM1 := Lib.hid hm1
  obtain ⟨pn, hpn⟩ : ∃ pn, (partsOf (itemsOf S.ps) a).length = pn := ⟨_, rfl⟩
  rw [hpn]
  clear ht ha1 hm1 ho1 hpt1 hl1 a0 a1 a3 a4 hpn
  go_wp2_with fail
  go_region_with (fail)
  all_goals go_wp2_with fail
  all_goals
    have p := (Puts.start (b := gb) (Below.refl w1.heap.size w1)).set 2 (.int .i64 (S.cr - (a - rest)))
    have hov := HO1.out.setCr p
    have hmv := (p.far w.heap.size hml1 hgnm).trans HM1.out
    have hbb : Below B w w1 := (HB0.out.mono hB).trans HT.out.bel
    obtain ⟨e1, e2⟩ := step_last { S with ps := ps, cr := S.cr - (a - rest) } ⟨0, 0, 0, a - rest, rest - a, 0⟩ (hbb.setCell hBg (.int .i64 (S.cr - (a - rest)))) ⟨vp, vq, qs, hov⟩ hmv hB
    rw [HO.out]
    exact mv_ret ⟨0, 0, 0, a - rest, rest - a, 0⟩ 0 w.heap.size rfl rfl rfl e1 e2
set_option maxHeartbeats 3200000 in
set_option maxRecDepth 100000 in
theorem offset_any (g B : Nat) (S : Ac) (a : Int) (w : World) (h : OwnAt w B g S) (hG : Good S) :
    Calls Tryz.prog 25 #[.pointer (some ⟨g, 0, none⟩), .int .i64 a] w (DoesOf w g S (offsetS S a)) := by
  have hgl := h.lt
  have hb0 : Below w.heap.size w ((w.alloc (.cells #[.int .i64 a] 2)).alloc (.cells #[.int .i64 0, .int .i64 0, .int .i64 0, .int .i64 0, .int .i64 0, .int .i64 0] 33)) := ((Below.refl _ _).alloc (Nat.le_refl _) _).alloc (by simp) _
  have hbx := blk_alloc (blk_new w (.cells #[.int .i64 a] 2) rfl) (.cells #[.int .i64 0, .int .i64 0, .int .i64 0, .int .i64 0, .int .i64 0, .int .i64 0] 33)
  have hz0 : ((w.alloc (.cells #[.int .i64 a] 2)).alloc (.cells #[.int .i64 0, .int .i64 0, .int .i64 0, .int .i64 0, .int .i64 0, .int .i64 0] 33)).heap.size = w.heap.size + 2 := by simp
  have HD := Lib.hid (spends_any 60 (.pointer (some ⟨w.heap.size, 0, none⟩)) g B S a (offset1 S a) _ (h.below hb0) hG.small (fun u wx => by kernel_rfl)
    (fun h1 h2 gb B' wx hB hb hBx ho => offset1_any gb B' w.heap.size S a wx ho hBx (blk_below hbx hb (by rw [hz0]; omega)) hG h2 h1))
  have HB0 := Lib.hid hb0
  have hm0 := blk_new (w.alloc (.cells #[.int .i64 a] 2)) (.cells #[.int .i64 0, .int .i64 0, .int .i64 0, .int .i64 0, .int .i64 0, .int .i64 0] 33) rfl
  have HM0 := Lib.hid hm0
  have n1 : w.heap.size + 1 ≠ g := by omega
  have hmf : ∀ (fn : Fn) (first cap : Array Value) (w : World), (Instr.makeFunc fn first cap).run Tryz.prog w = .ok (.func fn first cap) w := fun _ _ _ _ => rfl
  clear h hb0 hbx hm0
  go_enter Tryz.func25, Tryz.ntmps25
  go_wp2_with fail
  refine HD.out.mono ?_; intro e w1 hd
  obtain ⟨m, er, rfl⟩ := hd.form
  have hm := move_keeps hd HM0.out (by simp; omega)
  simp only [World.size_alloc] at hm
  obtain ⟨m0, m1, m2, m3, m4, m5, m6⟩ := cells6U hm
  have HE := Lib.hid (DoesOf.wrap HB0.out hd hm (by omega)); have HM := Lib.hid (put6_at hm m)
  clear hd hm HD
  go_wp2_with fail
  exact mv_ret m er (w.heap.size + 1) rfl rfl rfl HM.out HE.out
end Go.Proofs.YtbjjgnaojoaoiaaGreat
