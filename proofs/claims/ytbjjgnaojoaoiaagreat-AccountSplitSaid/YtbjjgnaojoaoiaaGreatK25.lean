/- Pay. -/
import Derived.Test.YtbjjgnaojoaoiaaGreatK24
namespace Go.Proofs.YtbjjgnaojoaoiaaGreat
open Go.RowKit Go
set_option linter.unusedVariables false
set_option linter.unusedSimpArgs false

theorem own_far_type {X Y : World} {B n s k : Nat} {v : Value} {e : TypeId} {xs : List Value} {cs : Array Value} {t : TypeId} {fr : Nat × Nat} (h : X.ownsRow B e s v n xs) (hg : X.grownBy Y v.ownBlock) (hk : X.heap[k]? = some (.cells cs t fr)) (ht : t ≠ e) : Y.heap[k]? = some (.cells cs t fr) :=
  (hg.block k (blk_lt hk) (fun e2 => by obtain ⟨_, cs', hcs⟩ := own_block_type h e2.symm; exact ne_of_type' hk hcs ht rfl)).trans hk
theorem own_app_end {X Y : World} {B gb : Nat} {S : Ac} {vp vq v5 v : Value} {qs : List PmE} {pm : Pm} {o : Obj} (h : OwnV X B gb S vp vq qs) (hpt : PartsAt X v pm.parts) (hg : (X.alloc o).grownBy Y vq.ownBlock)
    (ho : Y.ownsRow B 110 6 v5 (S.ms.length + 1) (pmCs qs ++ pmC ⟨pm, v⟩)) (hB : B ≤ X.heap.size) :
    OwnAt (Y.setCell ⟨gb, 4, none⟩ v5) B gb { S with ms := S.ms ++ [pm] } ∧ Below B X (Y.setCell ⟨gb, 4, none⟩ v5) ∧ ∀ (k : Nat) (cs : Array Value) (t : TypeId) (fr : Nat × Nat), X.heap[k]? = some (.cells cs t fr) → t ≠ 110 → k ≠ gb → (Y.setCell ⟨gb, 4, none⟩ v5).heap[k]? = some (.cells cs t fr) := by
  have hq' : (X.alloc o).ownsRow B 110 6 vq S.ms.length (pmCs qs) := h.hq.alloc _
  have keep : ∀ {k : Nat} {cs : Array Value} {t : TypeId} {fr : Nat × Nat}, X.heap[k]? = some (.cells cs t fr) → t ≠ 110 → Y.heap[k]? = some (.cells cs t fr) := fun hk ht => own_far_type hq' hg (blk_alloc hk o) ht
  have hgY := keep h.hg (by decide)
  have p : Puts Y gb [(4, v5)] (Y.setCell ⟨gb, 4, none⟩ v5) := (Puts.start (Below.refl _ _)).set 4 v5
  have hbY : Below B X Y := ((Below.refl B X).alloc hB o).grown hg (by simp; omega) (fun k hk => (own_block_type h.hq hk).1)
  refine ⟨⟨vp, v5, qs ++ [⟨pm, v⟩], p.near _ _ _ hgY, h.hB, ?_, ?_, by rw [List.map_append, h.hm]; rfl, fun q hq => ?_⟩, hbY.setCell h.hB _, fun k cs t fr hk ht hne => (p.far k (blk_lt (keep hk ht)) hne).trans (keep hk ht)⟩
  · have h1 : Y.ownsRow B 92 11 vp S.ps.length (perCs S.ps) := own_keep h.hp (fun b cs hb => (keep hb (by decide)).trans hb.symm)
    exact own_apart h1 p (fun e => by obtain ⟨_, cs, hcs⟩ := own_block_type h1 e; exact ne_of_type' hgY hcs (by decide) rfl)
  · have e1 : (S.ms ++ [pm]).length = S.ms.length + 1 := by simp
    show (Y.setCell ⟨gb, 4, none⟩ v5).ownsRow B 110 6 v5 (S.ms ++ [pm]).length (pmCs (qs ++ [⟨pm, v⟩]))
    rw [e1, pmCs_app, show pmCs [⟨pm, v⟩] = pmC ⟨pm, v⟩ by simp [pmCs]]
    exact own_apart ho p (fun e => by obtain ⟨_, cs, hcs⟩ := own_block_type ho e; exact ne_of_type' hgY hcs (by decide) rfl)
  · have h1 : PartsAt X q.v q.p.parts := by
      rcases List.mem_append.1 hq with hq | hq
      · exact h.parts q hq
      · rw [List.mem_singleton.1 hq]; exact hpt
    have h2 : PartsAt Y q.v q.p.parts := h1.keep (fun b cs hb => (keep hb (by decide)).trans hb.symm)
    exact h2.puts3 p hgY (by decide)
theorem step_last0 {w X : World} {B gb gm : Nat} (S' : Ac) (m : Mv) {x0 x1 x2 x3 x4 x5 : Value} (hb : Below B w X) (ho : OwnAt X B gb S') (hm : X.heap[gm]? = some (.cells #[x0, x1, x2, x3, x4, x5] 33 (0, 0))) (hgm : B ≤ gm) :
    (put6 X gm m).heap[gm]? = some (.cells #[.int .i64 m.c0, .int .i64 m.c1, .int .i64 m.c2, .int .i64 m.paid, .int .i64 m.cr, .int .i64 m.cash] 33 (0, 0)) ∧ StepOf w B gb (S', m, 0) (.returned (mvR m 0)) (put6 X gm m) := by
  have e1 := put6_at hm m
  have e2 := step_end (r := (S', m, 0)) hb ho hm hgm rfl
  have e3 : StepOf w B gb (S', m, 0) (.returned (mvR m 0)) (put6 X gm m) := e2
  generalize put6 X gm m = W at *
  exact ⟨e1, e3⟩
theorem OwnV.drew {w : World} {B g : Nat} {S : Ac} {vp vq : Value} {qs : List PmE} (h : OwnV w B g S vp vq qs) : OwnV w.drew B g S vp vq qs := h.below (Below.refl _ _).drew
theorem PartsAt.drew {w : World} {v : Value} {l : List Dq} (h : PartsAt w v l) : PartsAt w.drew v l := h.below (Below.refl _ _).drew
set_option maxHeartbeats 6400000 in
set_option maxRecDepth 100000 in
theorem pay1_any (gb B ga gi : Nat) (S : Ac) (id a : Int) (w : World) (h : OwnAt w B gb S) (hB : B ≤ w.heap.size) (ha : w.heap[ga]? = some (.cells #[.int .i64 a] 2 (0, 0))) (hi : w.heap[gi]? = some (.cells #[.int .i64 id] 3 (0, 0))) (hG : Good S) (h2 : 1 ≤ a ∧ a ≤ 1125899906842624) :
    Calls Tryz.prog 51 #[.pointer (some ⟨gb, 0, none⟩), .pointer (some ⟨ga, 0, none⟩), .pointer (some ⟨gi, 0, none⟩)] w (StepOf w B gb (pay1 S id a)) := by
  obtain ⟨vp, vq, qs, h⟩ := h
  have hPF := pay_facts hG.day hG.bp hG.rise hG.per (by have := hG.np; omega) (show 0 ≤ a by omega)
  have hBg := h.hB
  have hgl := blk_lt h.hg
  have hal := blk_lt ha
  have hil := blk_lt hi
  have hb0 : Below w.heap.size w (w.alloc (.cells #[.int .i64 0, .int .i64 0, .int .i64 0, .int .i64 0, .int .i64 0, .int .i64 0] 33)) := bnewU _ _
  have hv0 := h.below hb0
  have HP := Lib.hid (upay_any gb B S vp vq qs a _ hv0 (Nat.le_trans hB hb0.size) (by have := hG.np; omega) (by omega) hG.day hG.places hPF.1)
  obtain ⟨ps, hgs, hit, hret, hok, hrise⟩ := hPF.2
  have HGS := Lib.hid hgs
  have HV0 := Lib.hid hv0; have HB0 := Lib.hid hb0
  have hlb := leftI_bd hG.places (show 0 ≤ a by omega)
  have hmsl := hG.nm
  have HA0 := Lib.hid (blk_alloc ha (.cells #[.int .i64 0, .int .i64 0, .int .i64 0, .int .i64 0, .int .i64 0, .int .i64 0] 33))
  have HI0 := Lib.hid (blk_alloc hi (.cells #[.int .i64 0, .int .i64 0, .int .i64 0, .int .i64 0, .int .i64 0, .int .i64 0] 33))
  have HM0 := Lib.hid (blk_new w (.cells #[.int .i64 0, .int .i64 0, .int .i64 0, .int .i64 0, .int .i64 0, .int .i64 0] 33) rfl)
  have ca0 : w.cell? ⟨ga, 0, none⟩ = some (.int .i64 a) := (blk_cell ha 0).trans rfl
  have n2 : ga ≠ w.heap.size := by omega
  obtain ⟨rest, hrest⟩ : ∃ rest, leftI (itemsOf S.ps) a = rest := ⟨_, rfl⟩
  obtain ⟨cr', er, hadd⟩ : ∃ cr' er, addS S.cr rest = (cr', er) := ⟨_, _, rfl⟩
  have HO : Hid (pay1 S id a = if er = 0 then ({ S with ps := ps, cr := cr', ms := S.ms ++ [⟨id, S.day, a, partsOf (itemsOf S.ps) a, rest, false⟩] }, ⟨0, 0, 0, a - rest, rest, a⟩, 0) else (S, Mv.zero, 2)) := Lib.hid (by unfold pay1; rw [hgs, hrest]; simp only [hadd])
  rw [hrest] at hlb
  have HR := Lib.hid hrest
  have w1' : IntKind.i64.wrap (a - rest) = a - rest := IntWalk.i64_in _ (by omega)
  have HADD := Lib.hid hadd
  have hY := Lib.hid (fun wx (h0 : er = 0) => uadd_yes S.cr rest wx (by rw [hadd]; exact h0))
  have hN := Lib.hid (fun wx (h0 : er ≠ 0) => uadd_no S.cr rest wx (by rw [hadd]; exact h0))
  rw [hadd] at hY
  clear h hPF hb0 hv0 hgs hit hret hok hrise ha hi hrest hG hadd
  go_enter Tryz.func51, Tryz.ntmps51
  go_wp2_with fail
  refine HP.out.mono ?_; rintro e w1 ⟨ht, hm⟩
  rw [HGS.out] at hm
  obtain ⟨A, c, rfl, ho1, hpt1, hl1⟩ := hm
  rw [HR.out]
  have ha1 := ht.box HV0.out HA0.out (by decide)
  have hi1 := ht.box HV0.out HI0.out (by decide)
  have hm1 := ht.box HV0.out HM0.out (by decide)
  obtain ⟨a0, a1, a2, a3, a4, a5⟩ := cells5U ho1.hg
  have hgl1 := blk_lt ho1.hg
  have hgne : gb ≠ ga := ne_of_type' ho1.hg ha1 (by decide)
  have hgni : gb ≠ gi := ne_of_type' ho1.hg hi1 (by decide)
  have hgnm : w.heap.size ≠ gb := fun e => by rw [e] at hm1; exact ne_of_type' ho1.hg hm1 (by decide) rfl
  have hbb1 : Below B w w1 := (HB0.out.mono hB).trans ht.bel
  have HBB1 := Lib.hid hbb1; have HO1 := Lib.hid ho1; have HM1 := Lib.hid hm1; have HA1 := Lib.hid ha1; have HI1 := Lib.hid hi1
  obtain ⟨pn, hpn⟩ : ∃ pn, (partsOf (itemsOf S.ps) a).length = pn := ⟨_, rfl⟩
  rw [hpn] at hpt1 ⊢
  have HPT1 := Lib.hid hpt1
  clear ht ha1 hi1 hm1 ho1 hpt1 hl1 a0 a1 a3 a4 hpn hbb1
  by_cases h0 : er = 0
  · have hY2 := hY.out
    have HY := Lib.hid (fun wx => hY2 wx h0)
    have HO2 := HO.out
    rw [if_pos h0] at HO2
    have HOO := Lib.hid HO2
    clear hY2 HO2 hY hN HO h0 HADD
    go_wp2_with fail
    refine (HY.out _).mono ?_; rintro e w2 ⟨rfl, hw2⟩
    have ho2 := HO1.out.below hw2
    obtain ⟨b0, b1, b2, b3, b4, b5⟩ := cells5U ho2.hg
    have hgl2 := blk_lt ho2.hg
    have ha2 := blk_below HA1.out hw2 (blk_lt HA1.out)
    have hi2 := blk_below HI1.out hw2 (blk_lt HI1.out)
    have hm2 := blk_below HM1.out hw2 (blk_lt HM1.out)
    have hal2 := blk_lt ha2; have hil2 := blk_lt hi2
    have ca2 : w2.cell? ⟨ga, 0, none⟩ = some (.int .i64 a) := (blk_cell ha2 0).trans rfl
    have ci2 : w2.cell? ⟨gi, 0, none⟩ = some (.int .i64 id) := (blk_cell hi2 0).trans rfl
    obtain ⟨Aq, cq, rfl, hqc, _⟩ := ho2.rdq
    have p2 : Puts w2 gb [(2, .int .i64 cr')] (w2.setCell ⟨gb, 2, none⟩ (.int .i64 cr')) := (Puts.start (Below.refl _ _)).set 2 _
    have ho3 := (ho2.setCr p2).drew
    have hpt3 : PartsAt (w2.setCell ⟨gb, 2, none⟩ (.int .i64 cr')).drew (.slice A pn c) (partsOf (itemsOf S.ps) a) := ((HPT1.out.below hw2).puts3 p2 ho2.hg (by decide)).drew
    have hm3 := (p2.far w.heap.size (blk_lt hm2) hgnm).trans hm2
    have ha3 := (p2.far ga hal2 (Ne.symm hgne)).trans ha2
    have hbb3 : Below B w (w2.setCell ⟨gb, 2, none⟩ (.int .i64 cr')).drew := ((HBB1.out.trans (hw2.mono (Nat.le_trans hB HBB1.out.size))).setCell hBg _).drew
    have HO3 := Lib.hid ho3; have HPT3 := Lib.hid hpt3; have HBB3 := Lib.hid hbb3
    have HM3 : Hid ((w2.setCell ⟨gb, 2, none⟩ (.int .i64 cr')).drew.heap[w.heap.size]? = _) := Lib.hid hm3
    have HA3 : Hid ((w2.setCell ⟨gb, 2, none⟩ (.int .i64 cr')).drew.heap[ga]? = _) := Lib.hid ha3
    obtain ⟨i0, hi, hz0, hz1, hz2⟩ := info_parts info_pm
    have HPO := Lib.hid (pmCs_one HO1.out.parts)
    have HII := Lib.hid hi
    have hz3 : B ≤ (w2.setCell ⟨gb, 2, none⟩ (.int .i64 cr')).drew.heap.size := Nat.le_trans hB hbb3.size
    clear hw2 ho2 ha2 hi2 hm2 p2 ho3 hpt3 hm3 ha3 hbb3 hi b1 b3
    go_wp2_with fail
    go_cut [] from 23 to 40 (fun wc => OwnAt wc B gb { S with ps := ps, cr := cr', ms := S.ms ++ [⟨id, S.day, a, partsOf (itemsOf S.ps) a, rest, false⟩] } ∧ Below B w wc ∧ wc.heap[w.heap.size]? = some (.cells #[.int .i64 0, .int .i64 0, .int .i64 0, .int .i64 0, .int .i64 0, .int .i64 0] 33 (0, 0)) ∧ wc.heap[ga]? = some (.cells #[.int .i64 a] 2 (0, 0)))
    case first =>
      go_region_law (first
        | (refine step_app rfl (.tmp 27) (.tmp 37) 81 rfl B 110 i0 _ 6 64 Tryz.underlying81 HII.out hz0 hz1 hz2 rfl (by omega) (.slice Aq S.ms.length cq) S.ms.length (pmCs qs) rfl (HO3.out.hq.alloc _) _ (some ⟨w2.heap.size, 0, none⟩) 1 1 _ rfl (Rd.new (w := (w2.setCell ⟨gb, 2, none⟩ (.int .i64 cr')).drew) (cs := #[.int .i64 id, .int .i64 S.day, .int .i64 a, .slice A pn c, .int .i64 rest, .bool false]) (t := 110) (by simp) rfl) (by intro u hu; simp at hu; rcases hu with rfl | rfl | rfl | rfl | rfl | rfl <;> rfl) (by unfold maxLen; omega) (by omega) (by simp at hz3 ⊢; omega) ?_
           intro v5 w5 hO hgr hat
           have hE := own_app_end (pm := ⟨id, S.day, a, partsOf (itemsOf S.ps) a, rest, false⟩) HO3.out HPT3.out hgr hO hz3
           have hgb5 := own_far_type (HO3.out.hq.alloc _) hgr (blk_alloc HO3.out.hg _) (by decide)
           obtain ⟨d0, d1, d2, d3, d4, d5⟩ := cells5U hgb5
           have hgl5 := blk_lt hgb5
           obtain ⟨A5, c5, rfl, _⟩ := own_form hO
           have HE := Lib.hid hE
           clear hO hgr hat hE hgb5))
      all_goals go_wp2_with fail
      all_goals go_meet
      all_goals exact ⟨HE.out.1, HBB3.out.trans HE.out.2.1, HE.out.2.2 _ _ _ _ HM3.out (by decide) hgnm, HE.out.2.2 _ _ _ _ HA3.out (by decide) (Ne.symm hgne)⟩
    case rest =>
      obtain ⟨hoc, hbc, hmc, hac⟩ := hcut
      have cac : wc.cell? ⟨ga, 0, none⟩ = some (.int .i64 a) := (blk_cell hac 0).trans rfl
      obtain ⟨m0, m1, m2, m3, m4, m5, m6⟩ := cells6U hmc
      have hgac := blk_lt hac
      obtain ⟨e1, e2⟩ := step_last0 { S with ps := ps, cr := cr', ms := S.ms ++ [⟨id, S.day, a, partsOf (itemsOf S.ps) a, rest, false⟩] } ⟨0, 0, 0, a - rest, rest, a⟩ hbc hoc hmc hB
      have E1 := Lib.hid e1; have E2 := Lib.hid e2
      have n5 : ga ≠ w.heap.size := n2
      clear e1 e2 hoc hbc hmc hac
      go_wp2_with fail
      rw [HOO.out]
      exact mv_ret ⟨0, 0, 0, a - rest, rest, a⟩ 0 w.heap.size rfl rfl rfl E1.out E2.out
  · have hN2 := hN.out
    have HN := Lib.hid (fun wx => hN2 wx h0)
    have HO2 := HO.out
    rw [if_neg h0] at HO2
    have HOO := Lib.hid HO2
    clear hN2 HO2 hY hN HO h0 HADD
    go_wp2_with fail
    refine (HN.out _).mono ?_; rintro e w2 ⟨rfl, hw2⟩
    exact ⟨rfl, HBB1.out.trans (hw2.mono (Nat.le_trans hB HBB1.out.size)), by rw [HOO.out]; exact .inr ⟨by show (2 : Int) ≠ 0; decide, .inr rfl⟩⟩
end Go.Proofs.YtbjjgnaojoaoiaaGreat
