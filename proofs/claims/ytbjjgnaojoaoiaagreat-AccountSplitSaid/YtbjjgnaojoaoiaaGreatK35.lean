/- Advance: the step. -/
import Derived.Test.YtbjjgnaojoaoiaaGreatK28
import Derived.Test.YtbjjgnaojoaoiaaGreatK26
import Derived.Test.YtbjjgnaojoaoiaaGreatK34
namespace Go.Proofs.YtbjjgnaojoaoiaaGreat
open Go.RowKit Go
set_option linter.unusedVariables false
set_option linter.unusedSimpArgs false

theorem settleU_puts {ps : List Per} {k : Nat} (h : k < ps.length) (o1 acc : Int) : [(k * 11 + 6, Value.int .i64 o1), (k * 11 + 10, .int .i64 acc)].foldl (fun a u => a.set u.1 u.2) (perCs ps) = perCs (ps.set k { ps[k] with o1 := o1, acc := acc }) := by
  simp only [List.foldl_cons, List.foldl_nil]
  rw [per_put h (by omega) (y := { ps[k] with o1 := o1 }) rfl]
  rw [per_put (by simpa using h) (by omega) (y := { ps[k] with o1 := o1, acc := acc }) (by simp [perC]), List.set_set]
/-- What holds at the head of the loop. -/
structure AdvInv (w wr : World) (B gb : Nat) (S : Ac) (T : Int) (vp vq : Value) (qs : List PmE) (k : Nat) (s : Int) (ps : List Per) : Prop where
  eq : advK T S.bp S.ps k = (0, s, ps)
  own : OwnV wr B gb { S with day := T, ps := ps } vp vq qs
  len : ps.length = S.ps.length
  bel : Below B w wr
  m0 : wr.heap[w.heap.size]? = some (.cells #[.int .i64 0, .int .i64 0, .int .i64 0, .int .i64 0, .int .i64 0, .int .i64 0] 33 (0, 0))
  m1 : wr.heap[w.heap.size + 1]? = some (.cells #[.int .i64 0, .int .i64 s, .int .i64 0, .int .i64 0, .int .i64 0, .int .i64 0] 33 (0, 0))
theorem AdvInv.step {w wr w2 w3 : World} {B gb gp n cap k : Nat} {S : Ac} {T s o1 acc more s2 : Int} {vq : Value} {qs : List PmE} {ps : List Per} (h : AdvInv w wr B gb S T (.slice (some ⟨gp, 0, none⟩) n cap) vq qs k s ps) (hn : S.ps.length = n) (hk : k < ps.length) (hB : B ≤ w.heap.size) (hgp : B ≤ gp)
    (hs : settleS T S.bp ps[k] = (0, more, { ps[k] with o1 := o1, acc := acc })) (ha : addS s more = (s2, 0)) (hp : Puts wr gp [(k * 11 + 6, .int .i64 o1), (k * 11 + 10, .int .i64 acc)] w2) (hb : Below w2.heap.size w2 w3) :
    AdvInv w (w3.setCell ⟨w.heap.size + 1, 1, none⟩ (.int .i64 s2)) B gb S T (.slice (some ⟨gp, 0, none⟩) n cap) vq qs (k + 1) s2 (ps.set k { ps[k] with o1 := o1, acc := acc }) := by
  have hgd : ps.getD k Per.zero = ps[k] := by rw [List.getD_eq_getElem?_getD, List.getElem?_eq_getElem hk]; rfl
  have hov := h.own
  have hl := h.len
  obtain ⟨b1, cs1, hcs1⟩ := own_block_type hov.hp (b := gp) rfl
  have n0 : w.heap.size ≠ gp := ne_of_type' h.m0 hcs1 (by decide)
  have n1 : w.heap.size + 1 ≠ gp := ne_of_type' h.m1 hcs1 (by decide)
  have hv2 : OwnV w2 B gb { S with day := T, ps := ps.set k { ps[k] with o1 := o1, acc := acc } } (.slice (some ⟨gp, 0, none⟩) n cap) vq qs := by
    have e : (Value.slice (some ⟨gp, 0, none⟩) n cap) = .slice (some ⟨gp, 0, none⟩) ps.length cap := by rw [hl, hn]
    rw [e] at hov ⊢
    exact OwnV.puts (S := { S with day := T, ps := ps }) hov (by show 0 < ps.length; omega) hp (by simp) (settleU_puts hk o1 acc)
  have hz : wr.heap.size ≤ w2.heap.size := hp.size
  have m02 : w2.heap[w.heap.size]? = _ := (hp.far _ (blk_lt h.m0) n0).trans h.m0
  have m12 : w2.heap[w.heap.size + 1]? = _ := (hp.far _ (blk_lt h.m1) n1).trans h.m1
  have hv3 := hv2.below hb
  have m03 := blk_below m02 hb (blk_lt m02)
  have m13 := blk_below m12 hb (blk_lt m12)
  have hb3 : Below B w w3 := (h.bel.trans (hp.toBelow hgp (Nat.le_trans hB h.bel.size))).trans (hb.mono (Nat.le_trans (Nat.le_trans hB h.bel.size) hz))
  have p3 : Puts w3 (w.heap.size + 1) [(1, .int .i64 s2)] (w3.setCell ⟨w.heap.size + 1, 1, none⟩ (.int .i64 s2)) := (Puts.start (Below.refl _ _)).set 1 _
  refine ⟨?_, hv3.far p3 m13 (by decide) (by decide) (by decide) (by decide), by simpa using hl, hb3.setCell (p := ⟨w.heap.size + 1, 1, none⟩) (by show B ≤ w.heap.size + 1; omega) _, ?_, ?_⟩
  · rw [advK, h.eq, if_neg (by simp)]
    simp only [hgd, hs]
    rw [if_neg (by simp), ha, if_neg (by simp)]
  · exact (p3.far _ (blk_lt m03) (by omega)).trans m03
  · exact p3.near _ _ _ m13
set_option maxHeartbeats 6400000 in
set_option maxRecDepth 100000 in
theorem advance1_any (gb B gd : Nat) (S : Ac) (d : Int) (w : World) (h : OwnAt w B gb S) (hB : B ≤ w.heap.size) (hx : w.heap[gd]? = some (.cells #[.int .i64 d] 3 (0, 0))) (hG : Good S) (hd : 0 ≤ d ∧ d ≤ 36500) (hT : S.day + d ≤ 3652058) :
    Calls Tryz.prog 87 #[.pointer (some ⟨gb, 0, none⟩), .pointer (some ⟨gd, 0, none⟩)] w (StepOf w B gb (advance1 S d)) := by
  obtain ⟨vp, vq, qs, h⟩ := h
  have hBg := h.hB
  have hgl := blk_lt h.hg
  have hxl := blk_lt hx
  have hday := hG.day
  have hbp := hG.bp
  have hnp := hG.np
  have HG := Lib.hid hG
  have hb0 : Below w.heap.size w ((w.alloc (.cells #[.int .i64 0, .int .i64 0, .int .i64 0, .int .i64 0, .int .i64 0, .int .i64 0] 33)).alloc (.cells #[.int .i64 0, .int .i64 0, .int .i64 0, .int .i64 0, .int .i64 0, .int .i64 0] 33)) := ((Below.refl _ _).alloc (Nat.le_refl _) _).alloc (by simp) _
  have hm0 := blk_alloc (blk_new w (.cells #[.int .i64 0, .int .i64 0, .int .i64 0, .int .i64 0, .int .i64 0, .int .i64 0] 33) rfl) (.cells #[.int .i64 0, .int .i64 0, .int .i64 0, .int .i64 0, .int .i64 0, .int .i64 0] 33)
  have hm1 := blk_new (w.alloc (.cells #[.int .i64 0, .int .i64 0, .int .i64 0, .int .i64 0, .int .i64 0, .int .i64 0] 33)) (.cells #[.int .i64 0, .int .i64 0, .int .i64 0, .int .i64 0, .int .i64 0, .int .i64 0] 33) rfl
  simp only [World.size_alloc] at hm1
  have hov0 := h.below hb0
  have hx0 := blk_below hx hb0 hxl
  have hwT0 : IntKind.i64.wrap (S.day + d) = S.day + d := IntWalk.i64_in _ (by omega)
  obtain ⟨T, hTe⟩ : ∃ T, S.day + d = T := ⟨_, rfl⟩
  have HTE := Lib.hid hTe
  have hTb : S.day ≤ T ∧ 0 ≤ T ∧ T ≤ 3652058 := by omega
  have hwT : IntKind.i64.wrap (S.day + d) = T := hwT0.trans hTe
  clear hwT0
  have hne : gb ≠ gd := ne_of_type' h.hg hx (by decide)
  have hw0 : w.heap.size ≠ gb := by omega
  have hw1 : w.heap.size + 1 ≠ gb := by omega
  obtain ⟨n, hn⟩ : ∃ n, S.ps.length = n := ⟨_, rfl⟩
  have HN := Lib.hid hn
  have hn20 : n ≤ 20 := by omega
  clear h hx hTe hG hT hn
  go_enter Tryz.func87, Tryz.ntmps87
  go_upto_region 2 with fail
  obtain ⟨X, hX⟩ : ∃ X, (w.alloc (.cells #[.int .i64 0, .int .i64 0, .int .i64 0, .int .i64 0, .int .i64 0, .int .i64 0] 33)).alloc (.cells #[.int .i64 0, .int .i64 0, .int .i64 0, .int .i64 0, .int .i64 0, .int .i64 0] 33) = X := ⟨_, rfl⟩
  rw [hX] at hb0 hm0 hm1 hov0 hx0 ⊢
  clear hX
  obtain ⟨a0, a1, a2, a3, a4, a5⟩ := cells5U hov0.hg
  have cx : X.cell? ⟨gd, 0, none⟩ = some (.int .i64 d) := (blk_cell hx0 0).trans rfl
  have hglX := blk_lt hov0.hg
  have HM0 := Lib.hid hm0; have HM1 := Lib.hid hm1; have HB0 := Lib.hid hb0; have HV0 := Lib.hid hov0
  clear hm0 hm1 hb0 hov0 hx0 a1 a2 a3 a4
  go_cut [] from 7 to 14 (fun wc => AdvInv w wc B gb S T vp vq qs 0 0 S.ps)
  case first =>
    go_region_with (fail)
    all_goals go_wp2_with fail
    all_goals go_meet
    all_goals (try rw [hwT])
    all_goals
      have p := (Puts.start (b := gb) (Below.refl X.heap.size X)).set 0 (.int .i64 T)
      exact ⟨rfl, ((HV0.out.setDay p).below (Below.refl _ _).drew), rfl, ((HB0.out.mono hB).setCell (p := ⟨gb, 0, none⟩) hBg _).drew, (p.far _ (blk_lt HM0.out) hw0).trans HM0.out, (p.far _ (blk_lt HM1.out) hw1).trans HM1.out⟩
  case rest =>
    have HI0 := Lib.hid hcut
    obtain ⟨Ap, cp, ep, hcp, _⟩ := hcut.own.rdp
    have ep' : vp = .slice Ap n cp := by rw [ep]; exact congrArg (fun z => Value.slice Ap z cp) HN.out
    clear ep
    subst ep'
    obtain ⟨b0, b1, b2, b3, b4, b5⟩ := cells5U hcut.own.hg
    have hglc := blk_lt hcut.own.hg
    clear hcut a0 a5 cx HM0 HM1 HB0 HV0 hwT b0 b1 b2 b4 hcp hglX
    go_wp2_with fail
    clear b3 b5 hglc
    go_loopg [20] n (fun gh v20 wr => ∃ (k : Nat) (s : Int) (ps : List Per), gh = n - k ∧ k ≤ n ∧ v20 = .int .i64 k ∧ AdvInv w wr B gb S T (.slice Ap n cp) vq qs k s ps)
    case atStart => exact ⟨0, 0, S.ps, rfl, by omega, rfl, HI0.out⟩
    case round =>
      obtain ⟨k, s, ps, hgk, hk, rfl, hinv⟩ := hrel
      have HGH := Lib.hid hgk; have HV := Lib.hid hinv
      have hG := HG.out
      by_cases hlt : k < n
      · have hkl : k < ps.length := by rw [hinv.len, HN.out]; exact hlt
        have haok := advK_ok (T := T) (bp := S.bp) hG.per hTb.1 k (by rw [HN.out]; omega) (by rw [hinv.eq])
        rw [hinv.eq] at haok
        have hpk : ps[k] = S.ps[k]'(by rw [HN.out]; exact hlt) := by
          have := haok.1.rest k (Nat.le_refl _)
          rw [hinv.eq] at this
          rw [List.getElem?_eq_getElem hkl, List.getElem?_eq_getElem (by rw [HN.out]; exact hlt)] at this
          injection this
        have hpo := hG.per _ (List.getElem_mem (show k < S.ps.length by rw [HN.out]; exact hlt))
        rw [← hpk] at hpo
        have hib := interest_bd T S.bp ps[k]
        have hac := hpo.acc
        obtain ⟨gp, cap, ev, hgpl, hgpB, hper⟩ := hinv.own.per (i := k) hkl
        have ev' := ev
        injection ev with ev1 ev2 ev3
        subst ev1 ev3
        clear ev2
        have HS := Lib.hid (fun wx (hb : Below wr.heap.size wr wx) => settle_any gb gp (k * 11) T S.bp (.int .i64 S.cr) (.slice (some ⟨gp, 0, none⟩) n cp) vq 83 ps[k] wx (blk_below hinv.own.hg hb (blk_lt hinv.own.hg)) (hper.below hb) hTb.2 hpo.since0 (by omega))
        obtain ⟨b0, b1, b2, b3, b4, b5⟩ := cells5U hinv.own.hg
        have hglr := blk_lt hinv.own.hg
        obtain ⟨x0, x1, x2, x3, x4, x5, x6⟩ := cells6U hinv.m1
        have hml := blk_lt hinv.m1
        have i1 : (0 : Int) ≤ (k : Int) := by omega
        have i2 : (k : Int) < (n : Int) := by omega
        obtain ⟨b1', cs1, hcs1⟩ := own_block_type hinv.own.hp (b := gp) rfl
        have n1 : w.heap.size + 1 ≠ gp := ne_of_type' hinv.m1 hcs1 (by decide)
        have hgdk : ps.getD k Per.zero = ps[k] := by rw [List.getD_eq_getElem?_getD, List.getElem?_eq_getElem hkl]; rfl
        have HEQ := Lib.hid hinv.eq
        have HGD := Lib.hid hgdk
        have HAE := Lib.hid (fun (e : Int) (he : (advK T S.bp S.ps (k + 1)).1 = e) (h0 : e ≠ 0) => by
          have h1 := advK_err (T := T) (bp := S.bp) (ps := S.ps) (k := k + 1) (by rw [he]; exact h0) (n - (k + 1))
          have h2 : k + 1 + (n - (k + 1)) = S.ps.length := by rw [HN.out]; omega
          rw [h2, he] at h1
          exact (show advance1 S d = (S, Mv.zero, e) by unfold advance1; rw [HTE.out, h1, if_pos h0]))
        clear haok hpo hib hac hper hinv hgk ev' hG b0 b1 b2 b4 x0 x2 x3 x4 x5 hpk hcs1 hgdk
        by_cases h0 : (settleS T S.bp ps[k]).1 = 0
        · obtain ⟨_, _, hse, _⟩ := settle_some h0
          have hsi := settle_is T S.bp ps[k]
          obtain ⟨more, hmo⟩ : ∃ x, (settleS T S.bp ps[k]).2.1 = x := ⟨_, rfl⟩
          obtain ⟨o1, ho1⟩ : ∃ x, (settleS T S.bp ps[k]).2.2.o1 = x := ⟨_, rfl⟩
          obtain ⟨acc, hacc⟩ : ∃ x, (settleS T S.bp ps[k]).2.2.acc = x := ⟨_, rfl⟩
          have HSE : Hid (settleS T S.bp ps[k] = (0, more, { ps[k] with o1 := o1, acc := acc })) := Lib.hid (by
            rw [ho1, hacc] at hsi
            exact Prod.ext h0 (Prod.ext hmo hsi))
          have HS2 := Lib.hid (fun wx (hb : Below wr.heap.size wr wx) => (HS.out wx hb).mono (fun e w' hx => show e = .returned (.int .i64 more) ∧ Puts wx gp [(k * 11 + 6, .int .i64 o1), (k * 11 + 10, .int .i64 acc)] w' from by
            rcases hx with ⟨hne, _⟩ | ⟨_, he, hp⟩
            · exact absurd h0 hne
            · rw [hmo] at he; rw [ho1, hacc] at hp; exact ⟨he, hp⟩))
          clear hse hsi hmo ho1 hacc h0 HS
          obtain ⟨s2, er, hadd⟩ : ∃ s2 er, addS s more = (s2, er) := ⟨_, _, rfl⟩
          by_cases h1 : er = 0
          · subst h1
            have HA := Lib.hid (fun wx => uadd_yes s more wx (by rw [hadd]))
            rw [hadd] at HA
            have HST := Lib.hid (fun (w2 w3 : World) hp hb => AdvInv.step (w2 := w2) (w3 := w3) HV.out HN.out hkl hB hgpB HSE.out hadd hp hb)
            clear hadd
            generalize ps[k] = p at *
            go_wp2_with fail
            go_region_law (first
              | (refine step_call2R rfl 39 (.tmp 26) (.tmp 32) 27 88 rfl (.pointer (some ⟨gb, 0, none⟩)) (.pointer (some ⟨gp, k * 11, none⟩)) rfl (by first | rfl | simp) (settle_enter _ _) ?_
                 refine (HS2.out _ (Below.refl _ _).drew).mono ?_; rintro e w2 ⟨rfl, hp2⟩; refine ⟨_, rfl, ?_⟩
                 have HP2 : Hid (Puts wr gp [(k * 11 + 6, .int .i64 o1), (k * 11 + 10, .int .i64 acc)] w2) := Lib.hid (hp2.after (Below.refl _ _).drew)
                 have y1 : w2.cell? ⟨w.heap.size + 1, 1, none⟩ = some (.int .i64 s) := (blk_cell ((HP2.out.far _ (blk_lt HV.out.m1) n1).trans HV.out.m1) 1).trans rfl
                 have yl : w.heap.size + 1 < w2.heap.size := Nat.lt_of_lt_of_le hml HP2.out.size
                 clear hp2)
              | (refine step_call2R rfl 43 (.tmp 25) (.tmp 33) 2 2 rfl (.int .i64 s) (.int .i64 more) rfl rfl (add_enter _ _) ?_
                 refine (HA.out _).mono ?_; rintro e w3 ⟨rfl, hw3⟩; refine ⟨_, rfl, ?_⟩
                 have HFIN := Lib.hid (HST.out w2 w3 HP2.out hw3)
                 have zm := hw3.size
                 have zl : w.heap.size + 1 < w3.heap.size := Nat.lt_of_lt_of_le yl zm
                 have zc : w3.cell? ⟨w.heap.size + 1, 1, none⟩ = some (.int .i64 s) := (blk_cell (blk_below ((HP2.out.far _ (blk_lt HV.out.m1) n1).trans HV.out.m1) hw3 (blk_lt ((HP2.out.far _ (blk_lt HV.out.m1) n1).trans HV.out.m1))) 1).trans rfl
                 have zf : w3.frozen? ⟨w.heap.size + 1, 1, none⟩ = false := blk_free (blk_below ((HP2.out.far _ (blk_lt HV.out.m1) n1).trans HV.out.m1) hw3 (blk_lt ((HP2.out.far _ (blk_lt HV.out.m1) n1).trans HV.out.m1))) 1
                 clear hw3 zm))
            all_goals go_wp2_with fail
            all_goals go_roundg (n - (k + 1))
            case rel => exact ⟨k + 1, s2, _, rfl, by omega, by go_num, HFIN.out⟩
            all_goals first
              | exact ⟨k + 1, s2, _, rfl, by omega, by go_num, HFIN.out⟩
              | (have := HGH.out; omega)
          · have HA := Lib.hid (fun wx => uadd_no s more wx (by rw [hadd]; exact h1))
            have HE1 := Lib.hid (HAE.out 2 (by rw [advK, HEQ.out, if_neg (by simp)]; simp only [HGD.out, HSE.out]; rw [if_neg (by simp), if_pos (by rw [hadd]; exact h1)]) (by decide))
            clear hadd h1 HAE
            generalize ps[k] = p at *
            have HB1 := Lib.hid (fun (w2 w3 : World) (hp : Puts wr gp [(k * 11 + 6, .int .i64 o1), (k * 11 + 10, .int .i64 acc)] w2) (hb : Below w2.heap.size w2 w3) => ((HV.out.bel.trans (hp.toBelow hgpB (Nat.le_trans hB HV.out.bel.size))).trans (hb.mono (Nat.le_trans (Nat.le_trans hB HV.out.bel.size) hp.size)) : Below B w w3))
            go_wp2_with fail
            go_region_law (first
              | (refine step_call2R rfl 39 (.tmp 26) (.tmp 32) 27 88 rfl (.pointer (some ⟨gb, 0, none⟩)) (.pointer (some ⟨gp, k * 11, none⟩)) rfl (by first | rfl | simp) (settle_enter _ _) ?_
                 refine (HS2.out _ (Below.refl _ _).drew).mono ?_; rintro e w2 ⟨rfl, hp2⟩; refine ⟨_, rfl, ?_⟩
                 have HP2 : Hid (Puts wr gp [(k * 11 + 6, .int .i64 o1), (k * 11 + 10, .int .i64 acc)] w2) := Lib.hid (hp2.after (Below.refl _ _).drew)
                 have y1 : w2.cell? ⟨w.heap.size + 1, 1, none⟩ = some (.int .i64 s) := (blk_cell ((HP2.out.far _ (blk_lt HV.out.m1) n1).trans HV.out.m1) 1).trans rfl
                 have yl : w.heap.size + 1 < w2.heap.size := Nat.lt_of_lt_of_le hml HP2.out.size
                 clear hp2)
              | (refine step_call2P rfl 43 (.tmp 25) (.tmp 33) 2 2 rfl (.int .i64 s) (.int .i64 more) rfl rfl (add_enter _ _) ((HA.out _).mono ?_) ?_
                 · rintro e w3 ⟨rfl, hw3⟩; exact ⟨_, rfl, rfl, HB1.out w2 w3 HP2.out hw3, by rw [HE1.out]; exact .inr ⟨(by decide : (2 : Int) ≠ 0), .inr rfl⟩⟩))
            all_goals trivial
        · obtain ⟨ec, hec⟩ : ∃ ec, (settleS T S.bp ps[k]).1 = ec := ⟨_, rfl⟩
          rw [hec] at h0
          have HE1 := Lib.hid (HAE.out ec (by rw [advK, HEQ.out, if_neg (by simp)]; simp only [HGD.out]; rw [hec, if_pos h0]) h0)
          have HS2 := Lib.hid (fun wx (hb : Below wr.heap.size wr wx) => (HS.out wx hb).mono (fun e w' hx => show e = pan ec ∧ Below wx.heap.size wx w' from by
            rcases hx with ⟨_, he, hp⟩ | ⟨he0, _⟩
            · rw [hec] at he; exact ⟨he, hp⟩
            · exact absurd (hec.symm.trans he0) h0))
          have H0 := Lib.hid h0
          have HB1 := Lib.hid (fun (w2 : World) (hb : Below wr.drew.heap.size wr.drew w2) => (HV.out.bel.trans ((Below.refl _ _).drew.trans (hb.mono (Nat.le_trans hB HV.out.bel.size))) : Below B w w2))
          clear h0 hec HS HAE
          generalize ps[k] = p at *
          go_wp2_with fail
          go_region_law (refine step_call2P rfl 39 (.tmp 26) (.tmp 32) 27 88 rfl (.pointer (some ⟨gb, 0, none⟩)) (.pointer (some ⟨gp, k * 11, none⟩)) rfl (by first | rfl | simp) (settle_enter _ _) ((HS2.out _ (Below.refl _ _).drew).mono ?_) ?_
                         · rintro e w2 ⟨rfl, hw2⟩; exact ⟨_, rfl, rfl, HB1.out w2 hw2, by rw [HE1.out]; exact .inr ⟨H0.out, .inr rfl⟩⟩)
          all_goals trivial
      · have hkn : k = n := by omega
        subst hkn
        have heq := hinv.eq
        have HO : Hid (advance1 S d = ({ S with day := T, ps := ps }, ⟨0, s, 0, 0, 0, 0⟩, 0)) := Lib.hid (by
          unfold advance1; rw [HTE.out, HN.out, heq, if_neg (by simp)])
        obtain ⟨x0, x1, x2, x3, x4, x5, x6⟩ := cells6U hinv.m1
        have hml := blk_lt hinv.m1
        obtain ⟨z0, z1, z2, z3, z4, z5, z6⟩ := cells6U hinv.m0
        have hzl := blk_lt hinv.m0
        obtain ⟨e1, e2⟩ := step_last0 { S with day := T, ps := ps } ⟨0, s, 0, 0, 0, 0⟩ hinv.bel ⟨_, _, _, hinv.own⟩ hinv.m0 hB
        have E1 := Lib.hid e1; have E2 := Lib.hid e2
        clear e1 e2 heq hinv hgk
        go_wp2_with fail
        rw [HO.out]
        exact mv_ret ⟨0, s, 0, 0, 0, 0⟩ 0 w.heap.size rfl rfl rfl E1.out E2.out
end Go.Proofs.YtbjjgnaojoaoiaaGreat
