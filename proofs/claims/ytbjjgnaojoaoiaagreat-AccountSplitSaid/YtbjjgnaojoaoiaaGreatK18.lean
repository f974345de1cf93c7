/- The walk of give. -/
import Derived.Test.YtbjjgnaojoaoiaaGreatK17
namespace Go.Proofs.YtbjjgnaojoaoiaaGreat
open Go.RowKit Go
set_option linter.unusedVariables false
set_option linter.unusedSimpArgs false

theorem PerAt.drew {w : World} {b off : Nat} {p : Per} (h : PerAt w b off p) : PerAt w.drew b off p := ⟨fun j hj => h.c j hj, fun j hj => h.f j hj⟩
theorem PerAt.kind {w : World} {b off : Nat} {p : Per} (h : PerAt w b off p) {kk : Nat} (hk : kk < 3) : w.cell? ⟨b, off + 5 + kk, none⟩ = some (.int .i64 (p.opn kk)) := by
  have := h.c (5 + kk) (by omega)
  rw [← Nat.add_assoc] at this
  refine this.trans ?_
  rcases (show kk = 0 ∨ kk = 1 ∨ kk = 2 by omega) with rfl | rfl | rfl <;> rfl
set_option maxHeartbeats 12800000 in
set_option maxRecDepth 100000 in
theorem give_any (g B : Nat) (S : Ac) (vp vq : Value) (qs : List PmE) (A : Option Addr) (n c : Nat) (parts : List Dq) (times : Int) (w : World) (h : OwnV w B g S vp vq qs) (hpt : PartsAt w (.slice A n c) parts) (hB : B ≤ w.heap.size)
    (hN : S.ps.length ≤ 1000) (hn : n ≤ 1000000) (h1 : 0 ≤ S.day ∧ S.day ≤ 3652058) (hgood : ∀ k ps (hk : k < parts.length), giveS S.day times S.ps (parts.take k) = some ps → GoodAt S.day S.bp times ps parts[k]) :
    Calls Tryz.prog 64 #[.pointer (some ⟨g, 0, none⟩), .slice A n c, .int .i64 times] w (GiveOf w B g S vp vq (.slice A n c) qs parts (giveS S.day times S.ps parts)) := by
  have hnl := hpt.rd.1
  have H0 : Hid (GiveInv w w B g S vp vq (.slice A n c) qs parts times 0 S.ps) := Lib.hid ⟨rfl, h, hpt, rfl, Turn.refl _ _ _⟩
  have HGD := Lib.hid hgood; have HNL := Lib.hid hnl
  have hgB := h.hB
  clear h hpt hgood hnl
  go_enter Tryz.func64, Tryz.ntmps64
  go_wp2_with fail
  go_loopg [11] n (fun gh v11 wr => ∃ (k : Nat) (ps : List Per), gh = n - k ∧ k ≤ n ∧ v11 = .int .i64 k ∧ GiveInv w wr B g S vp vq (.slice A n c) qs parts times k ps)
  case atStart => exact ⟨0, S.ps, rfl, by omega, rfl, H0.out⟩
  case round =>
    obtain ⟨k, ps, hgk, hk, rfl, hinv⟩ := hrel
    have HG := Lib.hid hgk; have HV := Lib.hid hinv
    have hBr : B ≤ wr.heap.size := Nat.le_trans hB hinv.bel.size
    by_cases hlt : k < n
    · have hkp : k < parts.length := by have := HNL.out; omega
      have hgd := HGD.out k ps hkp hinv.eq
      obtain ⟨i, hi, he⟩ := hgd.i
      have hpl : ps.length ≤ 1000 := by rw [hinv.len]; exact hN
      obtain ⟨b, off, e1, hb, c0, c1, c2, c3⟩ := (hinv.pt.rd.2.2.2).it hkp
      subst e1
      have hof : off = 0 := by
        obtain ⟨A', c', e, _, _, h3⟩ := hinv.pt
        obtain ⟨b', cs, e1, _⟩ := h3 (by omega)
        injection e with e _ _; rw [e1] at e; injection e with e; injection e with _ e _
      subst hof
      simp only [Nat.zero_add] at c0 c1 c2 c3
      obtain ⟨gp, cap, evp, hgl, hgpB, hper⟩ := hinv.own.per (i := i) hi
      have hgg := hinv.own.hg
      have hggp : g ≠ gp := by
        intro e
        obtain ⟨_, cs, hcs⟩ := own_block_type hinv.own.hp (b := gp) (by rw [evp]; rfl)
        rw [← e] at hcs
        exact ne_of_type' hgg hcs (by decide) rfl
      have hsin := hgd.since _ (List.getElem_mem hi)
      have hint := hgd.int _ (List.getElem_mem hi)
      have hmul := hgd.mul
      have hkd := hgd.kind
      have hgr := blk_lt hgg
      have HF := Lib.hid (fun wx (hbx : Below wr.heap.size wr wx) => find_any g B { S with ps := ps } vp vq qs (parts[k]).per wx (hinv.own.below hbx) hpl)
      have HII := Lib.hid hi; have HEE := Lib.hid he
      have HPR := Lib.hid hper; have HGG := Lib.hid hgg; have HVP := Lib.hid evp
      have hbox := blk_new wr (.cells #[.int .i64 (parts[k]).due, .int .i64 (parts[k]).kind, .int .i64 (parts[k]).per, .int .i64 (parts[k]).opn] 58) rfl
      have HBX := Lib.hid hbox
      have HBN := Lib.hid ((Below.refl wr.heap.size wr).alloc (Nat.le_refl _) (.cells #[.int .i64 (parts[k]).due, .int .i64 (parts[k]).kind, .int .i64 (parts[k]).per, .int .i64 (parts[k]).opn] 58))
      have HINT := Lib.hid hint; have HST := Lib.hid (fun (w1 w2 : World) (nn : Int) (hv : GiveInv w wr B g S (.slice (some ⟨gp, 0, none⟩) ps.length cap) vq (.slice (some ⟨b, 0, none⟩) n c) qs parts times k ps) => GiveInv.step (w1 := w1) (w2 := w2) (n := nn) hv hkp hi he hkd)
      have HNN : Hid ((addS ((ps[i]).opn (parts[k]).kind) (times * (parts[k]).opn)).2 ≠ 0 → giveS S.day times S.ps parts = none) := Lib.hid (fun h0 => (giveS_take S.day times parts S.ps k ps hkp hinv.eq).2 (by
        have hg : ps.getD i Per.zero = ps[i] := by rw [List.getD_eq_getElem?_getD, List.getElem?_eq_getElem hi]; rfl
        rw [give1, he, Int.toNat_natCast, hg, if_neg h0]))
      clear hgd hinv hper hgg hint hbox evp
      generalize parts[k] = x at *
      generalize ps[i] = p at *
      obtain ⟨xd, xk, xp, xo⟩ := x
      simp only at c0 c1 c2 c3 hmul hkd HF HBX HBN
      have j1 : (0 : Int) ≤ (k : Int) := by omega
      have j2 : (k : Int) < (n : Int) := by omega
      have hmw : IntKind.i64.wrap (times * xo) = times * xo := IntWalk.i64_in _ (by omega)
      clear hgk hi he hmul hgB hb
      obtain ⟨kk, rfl, hk3⟩ : ∃ kk : Nat, xk = (kk : Int) ∧ kk < 3 := ⟨xk.toNat, by omega, by omega⟩
      have k1 : (0 : Int) ≤ (kk : Int) := by omega
      have k2 : (kk : Int) < 3 := by omega
      obtain ⟨q, e0, ha⟩ : ∃ q e0, addS (p.opn kk) (times * xo) = (q, e0) := ⟨_, _, rfl⟩
      by_cases hz : e0 = 0
      · subst hz
        have HA := Lib.hid (fun wx => uadd_yes (p.opn kk) (times * xo) wx (by rw [ha]))
        rw [ha] at HA
        have HAA := Lib.hid ha
        clear ha
        go_wp2_with fail
        refine (HF.out _ HBN.out).mono ?_; rintro e w1 ⟨hb1, ⟨hm, rfl⟩ | ⟨gp', cap', i', ev', hi', he', rfl⟩⟩
        · exact absurd (hm.symm.trans HEE.out) (by omega)
        · have e2 := ev'.symm.trans HVP.out
          injection e2 with e2; injection e2 with e2; injection e2 with e2 _; subst e2
          have hii : i' = i := by have := he'.symm.trans HEE.out; omega
          subst hii
          have hb1w : Below wr.heap.size wr w1 := HBN.out.trans (hb1.mono (by simp))
          obtain ⟨y0, y1, y2, y3, -⟩ := cells4G (blk_below HBX.out hb1 (by simp))
          have hp1 := HPR.out.below hb1w
          have r5 := hp1.kind hk3
          have HB1 := Lib.hid hb1w
          have HX1 := Lib.hid (blk_below HBX.out hb1 (by simp))
          have z1 : wr.heap.size < w1.heap.size := by have := hb1.size; simp at this; omega
          have z2 : gp' < w1.heap.size := hp1.lt
          have HP1 := Lib.hid hp1
          clear hb1 hb1w hp1 ev' hi' he'
          go_wp2_with fail
          go_region_law (first
            | (refine step_call2R rfl 43 (.tmp 29) (.tmp 33) 2 2 rfl (.int .i64 (p.opn kk)) (.int .i64 (times * xo)) rfl (by first | rfl | (show Value.int .i64 (IntKind.i64.wrap (times * xo)) = _; rw [hmw])) (add_enter _ _) ?_
               refine (HA.out _).mono ?_; rintro e w2 ⟨rfl, hw2⟩; refine ⟨_, rfl, ?_⟩
               have hb2 : Below wr.heap.size wr w2 := HB1.out.drew.trans (hw2.mono HB1.out.size)
               obtain ⟨yy0, yy1, yy2, yy3, -⟩ := cells4G (blk_below (w := w1.drew) HX1.out hw2 z1)
               have zz1 : wr.heap.size < w2.heap.size := Nat.lt_of_lt_of_le z1 hw2.size
               have HB2 := Lib.hid hb2
               clear hw2 hb2)
            | (refine step_call4R rfl 116 (.tmp 19) (.tmp 20) (.tmp 22) (.tmp 34) 27 88 3 2 rfl (.pointer (some ⟨g, 0, none⟩)) (.pointer (some ⟨gp', i' * 11, none⟩)) (.int .i64 (kk : Int)) (.int .i64 q) rfl rfl rfl rfl (set_enter _ _ _ _) ?_
               refine (set_any g gp' (i' * 11) S.day S.bp kk q (.int .i64 S.cr) vp vq 83 p w2 (blk_below HGG.out HB2.out hgr) (HPR.out.below HB2.out) hggp h1 hsin (by omega) (fun _ hd => HINT.out hd)).mono ?_
               rintro e w3 ⟨⟨u, rfl⟩, hp3⟩; refine ⟨_, rfl, ?_⟩
               have HFIN : Hid (GiveInv w w3 B g S vp vq (.slice (some ⟨b, 0, none⟩) n c) qs parts times (k + 1) (ps.set i' (Per.setO S.day p kk q))) := Lib.hid (by
                 have hv := HV.out
                 rw [HVP.out] at hv ⊢
                 exact HST.out _ _ _ hv HAA.out HB2.out hp3 hBr hgpB)
               clear hp3))
          all_goals go_wp2_with fail
          all_goals go_roundg (n - (k + 1))
          case measure => have := HG.out; omega
          case rel => exact ⟨k + 1, _, rfl, by omega, by go_num, HFIN.out⟩
          all_goals first
            | exact ⟨k + 1, _, rfl, by omega, by go_num, HFIN.out⟩
            | (have := HG.out; omega)
      · have HA := Lib.hid (fun wx => uadd_no (p.opn kk) (times * xo) wx (by rw [ha]; exact hz))
        have HNO := Lib.hid (HNN.out (by show (addS (p.opn kk) (times * xo)).2 ≠ 0; rw [ha]; exact hz))
        clear ha
        go_wp2_with fail
        refine (HF.out _ HBN.out).mono ?_; rintro e w1 ⟨hb1, ⟨hm, rfl⟩ | ⟨gp', cap', i', ev', hi', he', rfl⟩⟩
        · exact absurd (hm.symm.trans HEE.out) (by omega)
        · have e2 := ev'.symm.trans HVP.out
          injection e2 with e2; injection e2 with e2; injection e2 with e2 _; subst e2
          have hii : i' = i := by have := he'.symm.trans HEE.out; omega
          subst hii
          have hb1w : Below wr.heap.size wr w1 := HBN.out.trans (hb1.mono (by simp))
          obtain ⟨y0, y1, y2, y3, -⟩ := cells4G (blk_below HBX.out hb1 (by simp))
          have hp1 := HPR.out.below hb1w
          have r5 := hp1.kind hk3
          have HB1 := Lib.hid hb1w
          have HX1 := Lib.hid (blk_below HBX.out hb1 (by simp))
          have z1 : wr.heap.size < w1.heap.size := by have := hb1.size; simp at this; omega
          have z2 : gp' < w1.heap.size := hp1.lt
          have HP1 := Lib.hid hp1
          clear hb1 hb1w hp1 ev' hi' he'
          go_wp2_with fail
          have HBB := Lib.hid (fun (w2 : World) (h : Below w1.drew.heap.size w1.drew w2) => (HV.out.bel.below (HB1.out.drew.trans (h.mono HB1.out.size)) hBr : Turn w B vp w2))
          go_region_law (refine step_call2P rfl 43 (.tmp 29) (.tmp 33) 2 2 rfl (.int .i64 (p.opn kk)) (.int .i64 (times * xo)) rfl (by first | rfl | (show Value.int .i64 (IntKind.i64.wrap (times * xo)) = _; rw [hmw])) (add_enter _ _) ((HA.out _).mono ?_) ?_
                         · rintro e w2 ⟨rfl, hw2⟩; exact ⟨_, rfl, rfl, HBB.out w2 hw2, by rw [HNO.out]⟩)
          all_goals trivial
    · have hkn : k = n := by omega
      subst hkn
      have heq := hinv.eq
      rw [List.take_of_length_le (by have := HNL.out; omega)] at heq
      have HEQ := Lib.hid heq
      clear hinv hgk heq
      go_wp2_with fail
      all_goals go_end0
      all_goals exact ⟨HV.out.bel, by rw [HEQ.out]; exact ⟨⟨_, rfl⟩, HV.out.own, HV.out.pt, HV.out.len⟩⟩
end Go.Proofs.YtbjjgnaojoaoiaaGreat
