/- Laws. -/
import Derived.Test.YtbjjgnaojoaoiaaGreatZZ27
import Derived.Test.YtbjjgnaojoaoiaaGreatZZ37
namespace Go.Proofs.YtbjjgnaojoaoiaaGreat
open Go.RowKit Go
set_option linter.unusedVariables false
set_option linter.unusedSimpArgs false
set_option maxHeartbeats 6400000
set_option maxRecDepth 100000
theorem RefV.drew {w : World} {B g : Nat} {S : Ac} {vp vq : Value} {qs : List PmE} (h : RefV w B g S vp vq qs) : RefV w.drew B g S vp vq qs := h.below (Below.refl _ _).drew
def RPayOf (w : World) (B g : Nat) (S : Ac) (vp vq : Value) (qs : List PmE) (a : Int) (ps : List Per) (e : Ending) (w' : World) : Prop := Turn w B vp w' ∧
 ∃ A c, e = .returned (.tuple #[.slice A (partsOf (itemsOf S.ps) a).length c, .int .i64 (leftI (itemsOf S.ps) a), .int .i64 0]) ∧ RefV w' B g { S with ps := ps } vp vq qs ∧ PartsAt w' (.slice A (partsOf (itemsOf S.ps) a).length c) (partsOf (itemsOf S.ps) a) ∧ ps.length = S.ps.length
theorem live_step {s : List Dq} {a : Int} {k : Nat} (h : k < s.length) : live ((paidRow s a).take (k + 1)) = live ((paidRow s a).take k) ++ (if paidI s a s[k] = 0 then [] else [{ s[k] with opn := paidI s a s[k] }]) := by
 have hp : k < (paidRow s a).length := by rw [paidRow_len]; exact h
 rw [List.take_succ_eq_append_getElem hp]
 unfold live
 rw [List.filter_append]
 congr 1
 simp only [paidRow, List.getElem_map, List.filter_cons, List.filter_nil, nil0]
 by_cases hc : paidI s a s[k] = 0
 · simp [hc]
 · simp [hc]
theorem rpay_any (g B : Nat) (S : Ac) (vp vq : Value) (qs : List PmE) (a : Int) (ps : List Per) (w : World) (h : RefV w B g S vp vq qs) (hB : B ≤ w.heap.size) (hG : Good S) (ha : 0 ≤ a ∧ a ≤ 4611686018427387904) (hgs : giveS S.day (-1) S.ps (partsOf (itemsOf S.ps) a) = some ps) :
  Calls Tryz.prog 127 #[.pointer (some ⟨g, 0, none⟩), .int .i64 a] w (RPayOf w B g S vp vq qs a ps) := by
 obtain ⟨i0, hi, hz0, hz1, hz2⟩ := info_parts info_it
 have hnp := hG.np
 have HI := hyd (ritems_any g B S w ⟨_, _, _, h⟩ (by omega))
 have HV0 := hyd h; have HPL := hyd hG.places; have HGS := hyd hgs
 have HGV := hyd (fun (wr : World) A n c (hb : Below w.heap.size w wr) (hpt : PartsAt wr (.slice A n c) (partsOf (itemsOf S.ps) a)) (hn : n ≤ 1000000) => rgive_any g B S vp vq qs A n c (partsOf (itemsOf S.ps) a) (-1) wr (h.below hb) hpt (Nat.le_trans hB hb.size) (by omega) hn hG.day (pay_factsR hG ha.1))
 have hpl2 := parts_len hG.places a
 obtain ⟨n, hn⟩ : ∃ n, (itemsOf S.ps).length = n := ⟨_, rfl⟩
 have HNN := hyd hn
 have hn2 : n ≤ 60 := by rw [← hn, itemsOf_len]; omega
 rw [hn] at hpl2
 clear hG h hgs hn hnp
 go_enter Tryz.func127, Tryz.ntmps127
 go_wp2_with fail
 refine HI.out.mono ?_; rintro e w1 ⟨A1, c1, rfl, ho1, hb1⟩
 rw [HNN.out] at ho1 ⊢
 have HOR := hyd (orderRef_any A1 (itemsOf S.ps) n c1 w1 HNN.out (Rd.of_own ho1) (by unfold maxLen; omega))
 have HB1 := hyd hb1
 clear ho1 hb1 HI
 go_wp2_with fail
 refine HOR.out.mono ?_; rintro e w2 ⟨hb2, ⟨hne, _⟩ | ⟨_, A2, c2, s, rfl, hr2, hs, hc2⟩⟩
 · exact absurd HPL.out hne
 rw [HNN.out] at hr2 hc2 ⊢
 have hsp := hs.places HPL.out
 have hse := hs.eq HPL.out
 have hsl : s.length = n := by rw [hs.len]; exact HNN.out
 have hpe : payE s a = 0 := by unfold payE; rw [if_pos ha]; exact hsp
 have HPY := hyd (payRef_any A2 s a n c2 w2 hsl hr2 (by unfold maxLen; omega))
 have HB2 := hyd (HB1.out.trans (hb2.mono HB1.out.size)); have HR2 := hyd hr2; have HSL := hyd hsl; have HSE := hyd hse; have HPE := hyd hpe
 have HLF : Hid (leftI s a = leftI (itemsOf S.ps) a) := hyd (leftI_perm hs.1 a)
 clear hb2 hr2 hs hsp hse hsl hpe HOR
 go_wp2_with fail
 refine HPY.out.mono ?_; rintro e w3 ⟨hb3, ⟨hne, _⟩ | ⟨_, A3, c3, rfl, hr3, hc3⟩⟩
 · exact absurd HPE.out hne
 rw [HSL.out] at hr3 hc3 ⊢
 have HB3 := hyd (HB2.out.trans (hb3.mono HB2.out.size)); have HR3 := hyd hr3; have HR2' := hyd ((HR2.out.below hb3).wider hb3.size)
 clear hb3 hr3 HPY
 go_wp2_with fail
 go_loopg [12, 13] n (fun gh v12 v13 wr => ∃ k m : Nat, gh = n - k ∧ k ≤ n ∧ m ≤ k ∧ v13 = .int .i64 k ∧ (live ((paidRow s a).take k)).length = m ∧ wr.ownsRow w3.heap.size 58 4 v12 m (itCs (live ((paidRow s a).take k))) ∧ Below w3.heap.size w3 wr)
 case atStart => exact ⟨0, 0, rfl, by omega, by omega, rfl, rfl, World.ownsRow_nil _ _ _ _, Below.refl _ _⟩
 case round =>
  obtain ⟨k, m, hgk, hk, hmk, rfl, hlm, hown, hbr⟩ := hrel
  have HG := hyd hgk; have HO := hyd hown; have HB := hyd hbr; have HLM := hyd hlm
  have hzr := hbr.size
  obtain ⟨A4, k4, rfl, _⟩ := own_form hown
  by_cases hlt : k < n
  · have hks : k < s.length := by rw [HSL.out]; exact hlt
    have hkp : k < (payL s a).length := by rw [payL_lenP]; exact hks
    obtain ⟨b2, off2, rfl, hb2, x0, x1, x2, x3⟩ := (HR2'.out.below hbr).it hks
    obtain ⟨b3, off3, rfl, hb3, cp⟩ := (HR3.out.below hbr).num hkp
    rw [payL_atP s a k hks] at cp
    have HLS := hyd (live_step (a := a) hks)
    generalize s[k] = x at *
    obtain ⟨pv, hpv⟩ : ∃ pv, paidI s a x = pv := ⟨_, rfl⟩
    rw [hpv] at cp HLS
    have hb2r : b2 < wr.heap.size := Nat.lt_of_lt_of_le hb2 hzr
    have hb3r : b3 < wr.heap.size := Nat.lt_of_lt_of_le hb3 hzr
    have i1 : (0 : Int) ≤ (k : Int) := by omega
    have i2 : (k : Int) < (n : Int) := by omega
    clear hgk hown hbr hlm hpv
    by_cases hz : pv = 0
    · have hd : (pv == 0) = true := by simpa using hz
      have HLS2 := HLS.out
      rw [if_pos hz, List.append_nil] at HLS2
      have HL2 := hyd HLS2
      clear hz HLS2
      go_wp2_with fail
      go_roundg (n - (k + 1))
      case measure => have := HG.out; omega
      case rel => exact ⟨k + 1, m, rfl, by omega, by omega, by go_num, by rw [HL2.out]; exact HLM.out, by rw [HL2.out]; exact HO.out, HB.out⟩
    · have hd : (pv == 0) = false := by simpa using hz
      have HLS2 := HLS.out
      rw [if_neg hz] at HLS2
      have HL2 := hyd HLS2
      clear hz HLS2
      have HYB := hyd (bnewU wr (.cells #[.int .i64 x.due, .int .i64 x.kind, .int .i64 x.per, .int .i64 pv] 58))
      have HY := hyd (blk_new wr (.cells #[.int .i64 x.due, .int .i64 x.kind, .int .i64 x.per, .int .i64 pv] 58) rfl)
      go_upto_region 10 with fail
      generalize wr.alloc (.cells #[.int .i64 x.due, .int .i64 x.kind, .int .i64 x.per, .int .i64 pv] 58) = Y at *
      obtain ⟨y0, y1, y2, y3, -⟩ := cells4G HY.out
      have hyl := blk_lt HY.out
      have HOY := hyd (own_below HO.out HYB.out)
      have HBY : Hid (Below w3.heap.size w3 Y) := hyd (HB.out.trans (HYB.out.mono hzr))
      have hzY : w3.heap.size ≤ Y.heap.size := HBY.out.size
      have HDN : Hid (∀ (v5 : Value) (w5 : World), w5.ownsRow w3.heap.size 58 4 v5 (m + 1) (itCs (live ((paidRow s a).take k)) ++ [.int .i64 x.due, .int .i64 x.kind, .int .i64 x.per, .int .i64 pv]) → w5.ownsRow w3.heap.size 58 4 v5 (m + 1) (itCs (live ((paidRow s a).take (k + 1))))) := hyd (fun v5 w5 h => by
       rw [HL2.out, itCs_app]; exact h)
      have HLN : Hid ((live ((paidRow s a).take (k + 1))).length = m + 1) := hyd (by rw [HL2.out, List.length_append, HLM.out]; rfl)
      clear x0 x1 x2 x3 cp
      go_wp2_with (at_builtin; (refine wpList_app rfl (.tmp 49) (.tmp 51) _ rfl w3.heap.size 58 i0 _ 4 32 Tryz.underlying41 hi hz0 hz1 hz2 rfl (by omega) (.slice A4 m k4) m _ rfl (HOY.out.alloc _) _ (some ⟨Y.heap.size, 0, none⟩) 1 1 _ rfl (Rd.new (w := Y) (cs := #[.int .i64 x.due, .int .i64 x.kind, .int .i64 x.per, .int .i64 pv]) (t := 58) rfl rfl) (by intro u hu; simp at hu; rcases hu with rfl | rfl | rfl | rfl <;> rfl) (by unfold maxLen; omega) (by omega) (by simp; omega) ?_; intro v5 w5 hO hgr hat; have HO5 := hyd (HDN.out v5 w5 hO); have HB5 := hyd ((HBY.out.alloc hzY _).grown hgr (by simp; omega) (fun k hk => (own_block_type HOY.out hk).1)); clear hO hgr hat))
      go_roundg (n - (k + 1))
      case measure => have := HG.out; omega
      case rel => exact ⟨k + 1, m + 1, rfl, by omega, by omega, by go_num, HLN.out, HO5.out, HB5.out⟩
  · have hkn : k = n := by omega
    subst hkn
    have hEP : live ((paidRow s a).take k) = partsOf (itemsOf S.ps) a := by
     rw [List.take_of_length_le (by rw [paidRow_len, HSL.out]; exact Nat.le_refl _)]
     unfold partsOf
     rw [← HSE.out]
    rw [hEP] at hlm HO
    subst hlm
    have hwr : Below w.heap.size w wr := HB3.out.trans (hbr.mono HB3.out.size)
    have hpt := PartsAt.of_own HO.out
    have HGC := hyd (HGV.out wr A4 _ k4 hwr hpt (by omega))
    rw [HGS.out] at HGC
    have HWR := hyd hwr
    obtain ⟨rest, hrest⟩ : ∃ rest, leftI s a = rest := ⟨_, rfl⟩
    have hr2 : leftI (itemsOf S.ps) a = rest := by rw [← HLF.out, hrest]
    have HRS := hyd hr2
    rw [hrest]
    clear hgk hown hbr hEP hwr hpt hrest hr2
    go_wp2_with fail
    refine HGC.out.mono ?_; rintro e w5 ⟨hT, rfl, hv5, hp5, hl5⟩
    have HT := hyd (hT.ahead HWR.out hB); have HV5 := hyd hv5; have HP5 := hyd hp5; have HL5 := hyd hl5
    clear hT hv5 hp5 hl5
    go_wp2_with fail
    go_ret3
    exact ⟨HT.out, A4, k4, by rw [HRS.out]; rfl, HV5.out, HP5.out, HL5.out⟩
theorem live_takeR {s : List Dq} {k : Nat} (h : k < s.length) : live (s.take (k + 1)) = live (s.take k) ++ (if s[k].opn = 0 then [] else [s[k]]) := by
 rw [List.take_succ_eq_append_getElem h]
 unfold live
 rw [List.filter_append]
 congr 1
 simp only [List.filter_cons, List.filter_nil, nil0]
 by_cases hc : s[k].opn = 0
 · simp [hc]
 · simp [hc]
theorem ritems21_any (g B : Nat) (S : Ac) (w : World) (h : RefAt w B g S) (hG : Good S) :
  Calls Tryz.prog 74 #[.pointer (some ⟨g, 0, none⟩)] w (ItemsOut w S.ps) := by
 obtain ⟨i0, hi, hz0, hz1, hz2⟩ := info_parts info_it
 have hnp := hG.np
 have HI := hyd (ritems_any g B S w h (by omega))
 have HPL := hyd hG.places
 obtain ⟨n, hn⟩ : ∃ n, (itemsOf S.ps).length = n := ⟨_, rfl⟩
 have HNN := hyd hn
 have hn2 : n ≤ 60 := by rw [← hn, itemsOf_len]; omega
 clear hG h hn hnp
 go_enter Tryz.func74, Tryz.ntmps74
 go_wp2_with fail
 refine HI.out.mono ?_; rintro e w1 ⟨A1, c1, rfl, ho1, hb1⟩
 rw [HNN.out] at ho1 ⊢
 have HOR := hyd (orderRef_any A1 (itemsOf S.ps) n c1 w1 HNN.out (Rd.of_own ho1) (by unfold maxLen; omega))
 have HB1 := hyd hb1
 clear ho1 hb1 HI
 go_wp2_with fail
 refine HOR.out.mono ?_; rintro e w2 ⟨hb2, ⟨hne, _⟩ | ⟨_, A2, c2, s, rfl, hr2, hs, hc2⟩⟩
 · exact absurd HPL.out hne
 rw [HNN.out] at hr2 hc2 ⊢
 have hse := hs.eq HPL.out
 have hsp := hs.places HPL.out
 have hsl : s.length = n := by rw [hs.len]; exact HNN.out
 have HOK := hyd (placesE_ok hsp).2.1
 have HB2 := hyd (HB1.out.trans (hb2.mono HB1.out.size)); have HR2 := hyd hr2; have HSL := hyd hsl; have HSE := hyd hse
 clear hb2 hr2 hs hsp hse hsl HOR
 go_wp2_with fail
 go_loopg [5, 6] n (fun gh v5 v6 wr => ∃ k m : Nat, gh = n - k ∧ k ≤ n ∧ m ≤ k ∧ v6 = .int .i64 k ∧ (live (s.take k)).length = m ∧ wr.ownsRow w2.heap.size 58 4 v5 m (itCs (live (s.take k))) ∧ Below w2.heap.size w2 wr)
 case atStart => exact ⟨0, 0, rfl, by omega, by omega, rfl, rfl, World.ownsRow_nil _ _ _ _, Below.refl _ _⟩
 case round =>
  obtain ⟨k, m, hgk, hk, hmk, rfl, hlm, hown, hbr⟩ := hrel
  have HG := hyd hgk; have HO := hyd hown; have HB := hyd hbr; have HLM := hyd hlm
  have hzr := hbr.size
  obtain ⟨A4, k4, rfl, _⟩ := own_form hown
  by_cases hlt : k < n
  · have hks : k < s.length := by rw [HSL.out]; exact hlt
    obtain ⟨b2, off2, rfl, hb2, x0, x1, x2, x3⟩ := (HR2.out.below hbr).it hks
    have HLS := hyd (live_takeR hks)
    have hok := okI_yes (List.all_eq_true.1 HOK.out _ (List.getElem_mem hks))
    generalize s[k] = x at *
    have hb2r : b2 < wr.heap.size := Nat.lt_of_lt_of_le hb2 hzr
    have i1 : (0 : Int) ≤ (k : Int) := by omega
    have i2 : (k : Int) < (n : Int) := by omega
    clear hgk hown hbr hlm
    by_cases hz : x.opn = 0
    · have hd : decide (x.opn > 0) = false := by simp; omega
      have HLS2 := HLS.out
      rw [if_pos hz, List.append_nil] at HLS2
      have HL2 := hyd HLS2
      clear hz HLS2 hok
      go_wp2_with fail
      go_roundg (n - (k + 1))
      case measure => have := HG.out; omega
      case rel => exact ⟨k + 1, m, rfl, by omega, by omega, by go_num, by rw [HL2.out]; exact HLM.out, by rw [HL2.out]; exact HO.out, HB.out⟩
    · have hd : decide (x.opn > 0) = true := by simp; omega
      have HLS2 := HLS.out
      rw [if_neg hz] at HLS2
      have HL2 := hyd HLS2
      clear hz HLS2 hok
      have HDN : Hid (∀ (v5 : Value) (w5 : World), w5.ownsRow w2.heap.size 58 4 v5 (m + 1) (itCs (live (s.take k)) ++ [.int .i64 x.due, .int .i64 x.kind, .int .i64 x.per, .int .i64 x.opn]) → w5.ownsRow w2.heap.size 58 4 v5 (m + 1) (itCs (live (s.take (k + 1))))) := hyd (fun v5 w5 h => by
       rw [HL2.out, itCs_app]; exact h)
      have HLN : Hid ((live (s.take (k + 1))).length = m + 1) := hyd (by rw [HL2.out, List.length_append, HLM.out]; rfl)
      go_wp2_with (at_builtin; (refine wpList_app rfl (.tmp 25) (.tmp 30) _ rfl w2.heap.size 58 i0 _ 4 32 Tryz.underlying41 hi hz0 hz1 hz2 rfl (by omega) (.slice A4 m k4) m _ rfl (HO.out.alloc _) _ (some ⟨wr.heap.size, 0, none⟩) 1 1 _ rfl (Rd.new (w := wr) (cs := #[.int .i64 x.due, .int .i64 x.kind, .int .i64 x.per, .int .i64 x.opn]) (t := 58) rfl rfl) (by intro u hu; simp at hu; rcases hu with rfl | rfl | rfl | rfl <;> rfl) (by unfold maxLen; omega) (by omega) (by simp; omega) ?_; intro v5 w5 hO hgr hat; have HO5 := hyd (HDN.out v5 w5 hO); have HB5 := hyd ((HB.out.alloc hzr _).grown hgr (by simp; omega) (fun k hk => (own_block_type HO.out hk).1)); clear hO hgr hat))
      go_roundg (n - (k + 1))
      case measure => have := HG.out; omega
      case rel => exact ⟨k + 1, m + 1, rfl, by omega, by omega, by go_num, HLN.out, HO5.out, HB5.out⟩
  · have hkn : k = n := by omega
    subst hkn
    have hEP : live (s.take k) = openS S.ps := by
     rw [List.take_of_length_le (by rw [HSL.out]; exact Nat.le_refl _)]
     unfold openS
     rw [← HSE.out]
    rw [hEP] at hlm HO
    subst hlm
    have HWR : Hid (Below w.heap.size w wr) := hyd (HB2.out.trans (hbr.mono HB2.out.size))
    clear hgk hown hbr hEP
    go_wp2_with fail
    go_ret
    exact ⟨A4, k4, rfl, own_mono HO.out HB2.out.size, HWR.out⟩
theorem RDoesOf.form {w w' : World} {g : Nat} {S : Ac} {r : Ac × Mv × Int} {e : Ending} (h : RDoesOf w g S r e w') : ∃ m er, e = .returned (mvR m er) := by
 rcases h.2 with ⟨_, e, _⟩ | ⟨_, e, _⟩
 · exact ⟨_, _, e⟩
 · exact ⟨_, _, e⟩
theorem RDoesOf.wrap {w w0 w1 : World} {g gm : Nat} {S : Ac} {r : Ac × Mv × Int} {m : Mv} {er : Int} {x0 x1 x2 x3 x4 x5 : Value} (hb : Below w.heap.size w w0) (h : RDoesOf w0 g S r (.returned (mvR m er)) w1) (hm : w1.heap[gm]? = some (.cells #[x0, x1, x2, x3, x4, x5] 33 (0, 0)))
  (hgm : w.heap.size ≤ gm) : RDoesOf w g S r (.returned (mvR m er)) (put6 w1 gm m) := by
 have P := puts6 w1 gm m
 have hfar : ∀ k, k ≠ gm → (put6 w1 gm m).heap[k]? = w1.heap[k]? := fun k hk => put6_far w1 gm m hk
 have hmv : ∀ {B : Nat} {S : Ac}, RefAt w1 B g S → RefAt (put6 w1 gm m) B g S := fun h => h.moved hm m
 generalize put6 w1 gm m = W at *
 refine ⟨⟨P.os.trans (h.1.os.trans hb.os), P.tape.trans (h.1.tape.trans hb.tape), P.output.trans (h.1.output.trans hb.output), Nat.le_trans hb.size (Nat.le_trans h.1.size P.size), fun k hk hne => ?_⟩, ?_⟩
 · have hkg : k ≠ gm := by omega
   exact (hfar k hkg).trans ((h.1.block k (Nat.lt_of_lt_of_le hk hb.size) hne).trans (hb.block k hk))
 · rcases h.2 with ⟨h0, e, ho⟩ | ⟨h0, e, ho⟩
   · exact .inl ⟨h0, e, hmv ho⟩
   · exact .inr ⟨h0, e, hmv ho⟩
theorem rmove_keeps {w0 w1 : World} {g gm : Nat} {S : Ac} {r : Ac × Mv × Int} {e : Ending} {o : Obj} (h : RDoesOf w0 g S r e w1) (hm : w0.heap[gm]? = some o) (hne : gm ≠ g) : w1.heap[gm]? = some o :=
 (h.1.block gm (blk_lt hm) (fun e => hne (by have := Option.some.inj e; omega))).trans hm
theorem RefAt.lt {w : World} {B g : Nat} {S : Ac} (h : RefAt w B g S) : g < w.heap.size := by obtain ⟨_, _, _, h⟩ := h; exact blk_lt h.hg
theorem RefAt.cell {w : World} {B g : Nat} {S : Ac} (h : RefAt w B g S) : ∃ A c A' c', w.heap[g]? = some (.cells #[.int .i64 S.day, .int .i64 S.bp, .int .i64 S.cr, .slice A S.ps.length c, .slice A' S.ms.length c'] 123 (0, 0)) := by
 obtain ⟨vp, vq, _, h⟩ := h
 obtain ⟨A, c, rfl, _⟩ := own_form h.hp
 obtain ⟨A', c', rfl, _⟩ := own_form h.hq
 exact ⟨_, _, _, _, h.hg⟩
theorem PerOk.low {day bp : Int} {ps : List Per} (h : ∀ p ∈ ps, PerOk day bp p) : LowP ps := fun p hp => ⟨(h p hp).b0.2, (h p hp).b1.2, (h p hp).b2.2⟩
theorem takeS_ok {S S' : Ac} {m : Mv} (h : S'.cr ≤ 4611686018427387904) : takeS S S' m 0 = (S', m, 0) := by
 unfold takeS; rw [if_neg (by simp), if_pos h]
theorem takeS_over {S S' : Ac} {m : Mv} (h : ¬ S'.cr ≤ 4611686018427387904) : takeS S S' m 0 = (S, Mv.zero, 2) := by
 unfold takeS; rw [if_neg (by simp), if_neg h]
theorem rrefund_any (g : Nat) (S : Ac) (a : Int) (w : World) (h : RefAt w 0 g S) (hG : Good S) :
  Calls Tryz.prog 72 #[.pointer (some ⟨g, 0, none⟩), .int .i64 a] w (RDoesOf w g S (refundS S a)) := by
 have HV := hyd h
 have hgl := h.lt
 have hb0 : Below w.heap.size w (w.alloc mvZ0) := bnewU _ _
 have HB0 := hyd hb0; have HM0 := hyd (blk_new w mvZ0 rfl)
 have HVX := hyd (h.below hb0)
 have hcr := hG.cr
 clear h hb0 hG
 unfold refundS
 by_cases ha : 1 ≤ a ∧ a ≤ 1125899906842624
 · rw [if_neg (by simpa using ha)]
   have t1 : decide (a < 1) = false := by simp; omega
   have t2 : decide (a > 1125899906842624) = false := by simp; omega
   by_cases hc : S.cr < a
   · rw [if_pos hc]
     have t3 : decide (a > S.cr) = true := by simpa using hc
     clear ha hc
     go_enter Tryz.func72, Tryz.ntmps72
     go_upto_region 1 with fail
     generalize w.alloc mvZ0 = X at *
     obtain ⟨Ap, cp, Aq, cq, hg⟩ := HVX.out.cell
     obtain ⟨a0, a1, a2, a3, a4, a5⟩ := cells5U hg
     obtain ⟨z0, z1, z2, z3, z4, z5, z6⟩ := cells6U HM0.out
     have hmx := blk_lt HM0.out; have hgx := blk_lt hg
     have HE := hyd (take_bad (S' := S) (m := Mv.zero) (er := 2) (gm := w.heap.size) HV.out HB0.out (Nat.le_refl _) (by decide))
     have HM := hyd (put6_at HM0.out Mv.zero)
     go_wp2_with fail
     exact mv_ret Mv.zero 2 w.heap.size rfl rfl rfl HM.out HE.out
   · rw [if_neg hc]
     have t3 : decide (a > S.cr) = false := by simpa using hc
     have hw1 : IntKind.i64.wrap (S.cr - a) = S.cr - a := IntWalk.i64_in _ (by omega)
     have hw2 : IntKind.i64.wrap (-a) = -a := IntWalk.i64_in _ (by omega)
     clear ha hc
     go_enter Tryz.func72, Tryz.ntmps72
     go_upto_region 1 with fail
     generalize w.alloc mvZ0 = X at *
     obtain ⟨vp, vq, qs, hv⟩ := HVX.out
     obtain ⟨Ap, cp, rfl, _⟩ := own_form hv.hp
     obtain ⟨Aq, cq, rfl, _⟩ := own_form hv.hq
     obtain ⟨a0, a1, a2, a3, a4, a5⟩ := cells5U hv.hg
     obtain ⟨z0, z1, z2, z3, z4, z5, z6⟩ := cells6U HM0.out
     have hmx := blk_lt HM0.out; have hgx := blk_lt hv.hg
     have n1 : g ≠ w.heap.size := by omega
     have n2 : w.heap.size ≠ g := by omega
     have hp := (Puts.start (b := g) (Below.refl X.heap.size X)).set 2 (.int .i64 (S.cr - a))
     have hmm := (hp.far w.heap.size hmx (by omega)).trans HM0.out
     have HE := hyd (take_end (m := ⟨0, 0, 0, 0, -a, -a⟩) HB0.out hp hmm ⟨_, _, _, (hv.setCr hp).mono (Nat.zero_le _)⟩ (Nat.le_refl _) S)
     have HM := hyd (put6_at hmm ⟨0, 0, 0, 0, -a, -a⟩)
     clear hv hp hmm
     go_wp2_with fail
     exact mv_ret ⟨0, 0, 0, 0, -a, -a⟩ 0 w.heap.size rfl rfl rfl HM.out HE.out
 · rw [if_pos (by simpa using ha)]
   have HE : Hid (∀ X : World, Below w.heap.size w X → RDoesOf w g S (S, Mv.zero, 1) (.returned (mvR Mv.zero 1)) (put6 X w.heap.size Mv.zero)) := hyd (fun X hb => take_bad (S' := S) (m := Mv.zero) (er := 1) (gm := w.heap.size) HV.out hb (Nat.le_refl _) (by decide))
   by_cases h1 : a < 1
   · have t1 : decide (a < 1) = true := by simpa using h1
     clear ha h1
     go_enter Tryz.func72, Tryz.ntmps72
     go_upto_region 1 with fail
     generalize w.alloc mvZ0 = X at *
     obtain ⟨z0, z1, z2, z3, z4, z5, z6⟩ := cells6U HM0.out
     have hmx := blk_lt HM0.out
     have HM := hyd (put6_at HM0.out Mv.zero)
     have HE := hyd (HE.out X HB0.out)
     go_wp2_with fail
     exact mv_ret Mv.zero 1 w.heap.size rfl rfl rfl HM.out HE.out
   · have t1 : decide (a < 1) = false := by simpa using h1
     have t2 : decide (a > 1125899906842624) = true := by simp; omega
     clear ha h1
     go_enter Tryz.func72, Tryz.ntmps72
     go_upto_region 1 with fail
     generalize w.alloc mvZ0 = X at *
     obtain ⟨z0, z1, z2, z3, z4, z5, z6⟩ := cells6U HM0.out
     have hmx := blk_lt HM0.out
     have HM := hyd (put6_at HM0.out Mv.zero)
     have HE := hyd (HE.out X HB0.out)
     go_wp2_with fail
     exact mv_ret Mv.zero 1 w.heap.size rfl rfl rfl HM.out HE.out
theorem parts_sums {its : List Dq} (h : placesE its = 0) {a : Int} (ha : 0 ≤ a ∧ a ≤ 4611686018427387904) : ∀ k, k ≤ (partsOf its a).length → 0 ≤ opens ((partsOf its a).take k) ∧ opens ((partsOf its a).take k) ≤ 4611686018427387904 := fun k hk => by
 have hnn : ∀ y ∈ partsOf its a, 0 ≤ y.opn := fun y hy => by obtain ⟨_, _, _, h1, _⟩ := parts_of h hy; omega
 have h1 := opens_nn (l := (partsOf its a).take k) (fun y hy => hnn y (List.mem_of_mem_take hy))
 have h2 := opens_nn (l := (partsOf its a).drop k) (fun y hy => hnn y (List.mem_of_mem_drop hy))
 have h3 : opens (partsOf its a) = opens ((partsOf its a).take k) + opens ((partsOf its a).drop k) := by rw [← opens_app, List.take_append_drop]
 have h4 := opens_parts h ha
 have h5 := leftI_bd h ha.1
 omega
theorem rtake_enter (u v : Value) (m : Mv) (er : Int) (w : World) : (callFunc 123 #[u, v, mvV m, .int .i64 er]).run Tryz.prog w = .ok (.enter 123 #[u, v, mvV m, .int .i64 er]) w := by kernel_rfl
theorem rtake_end (g gb gm : Nat) (S S' : Ac) (m : Mv) (w X Y : World) (h : RefAt X 0 g S) (hX : Below w.heap.size w X) (hY : Below X.heap.size X Y) (hgm : w.heap.size ≤ gm) (hm : X.heap[gm]? = some mvZ0) (hb : RefAt Y 0 gb S') (hbp : S'.bp = S.bp) (hn : S'.ps.length ≤ 1000) (hl : LowP S'.ps) (hne : g ≠ gb) (hgg : g < w.heap.size) :
  Calls Tryz.prog 123 #[.pointer (some ⟨g, 0, none⟩), .pointer (some ⟨gb, 0, none⟩), mvV m, .int .i64 0] Y fun e w' => ∃ m' er, e = .returned (mvR m' er) ∧ (∃ x0 x1 x2 x3 x4 x5, w'.heap[gm]? = some (.cells #[x0, x1, x2, x3, x4, x5] 33 (0, 0))) ∧ w'.heap[gm]? = some mvZ0 ∧ RDoesOf w g S (takeS S S' m 0) (.returned (mvR m' er)) (put6 w' gm m') ∧ (put6 w' gm m').heap[gm]? = some (.cells #[.int .i64 m'.c0, .int .i64 m'.c1, .int .i64 m'.c2, .int .i64 m'.paid, .int .i64 m'.cr, .int .i64 m'.cash] 33 (0, 0)) := by
 have hT := rtake_any g gb S S' m 0 Y (h.below hY) (fun _ => ⟨hb, hbp, hn, hl⟩) hne
 refine hT.mono ?_
 intro e w' hd
 obtain ⟨m', er, rfl⟩ := hd.form
 have hm1 := rmove_keeps hd (blk_below hm hY (blk_lt hm)) (by omega)
 exact ⟨m', er, rfl, ⟨_, _, _, _, _, _, hm1⟩, hm1, hd.wrap (hX.trans (hY.mono hX.size)) hm1 hgm, put6_at hm1 m'⟩
theorem roffset_any (g : Nat) (S : Ac) (a : Int) (w : World) (h : RefAt w 0 g S) (hG : Good S) :
  Calls Tryz.prog 71 #[.pointer (some ⟨g, 0, none⟩), .int .i64 a] w (RDoesOf w g S (offsetS S a)) := by
 have HV := hyd h
 have hgl := h.lt
 have hb0 : Below w.heap.size w (w.alloc mvZ0) := bnewU _ _
 have HB0 := hyd hb0; have HM0 := hyd (blk_new w mvZ0 rfl)
 have HVX := hyd (h.below hb0)
 have hcr := hG.cr
 have HG := hyd hG
 clear h hb0 hG
 unfold offsetS
 by_cases ha : 1 ≤ a ∧ a ≤ 1125899906842624
 · rw [if_neg (by simpa using ha)]
   have t1 : decide (a < 1) = false := by simp; omega
   have t2 : decide (a > 1125899906842624) = false := by simp; omega
   by_cases hc : S.cr < a
   · rw [if_pos hc]
     have t3 : decide (a > S.cr) = true := by simpa using hc
     clear ha hc
     go_enter Tryz.func71, Tryz.ntmps71
     go_upto_region 1 with fail
     generalize w.alloc mvZ0 = X at *
     obtain ⟨Ap, cp, Aq, cq, hg⟩ := HVX.out.cell
     obtain ⟨a0, a1, a2, a3, a4, a5⟩ := cells5U hg
     obtain ⟨z0, z1, z2, z3, z4, z5, z6⟩ := cells6U HM0.out
     have hmx := blk_lt HM0.out; have hgx := blk_lt hg
     have HE := hyd (take_bad (S' := S) (m := Mv.zero) (er := 2) (gm := w.heap.size) HV.out HB0.out (Nat.le_refl _) (by decide))
     have HM := hyd (put6_at HM0.out Mv.zero)
     go_wp2_with fail
     exact mv_ret Mv.zero 2 w.heap.size rfl rfl rfl HM.out HE.out
   · rw [if_neg hc]
     have t3 : decide (a > S.cr) = false := by simpa using hc
     have hcc : a ≤ S.cr := by omega
     obtain ⟨ps, hgs, hit, hret, hok, hrise⟩ := HG.out.paid (show 0 ≤ a by omega)
     have hsum := opens_parts HG.out.places (show 0 ≤ a ∧ a ≤ 4611686018427387904 by omega)
     have hlb := leftI_bd HG.out.places (show 0 ≤ a by omega)
     obtain ⟨rest, hrest⟩ : ∃ rest, leftI (itemsOf S.ps) a = rest := ⟨_, rfl⟩
     have HO : Hid (offset1 S a = ({ S with ps := ps, cr := S.cr - (a - rest) }, ⟨0, 0, 0, a - rest, rest - a, 0⟩, 0)) := hyd (by unfold offset1; rw [hgs, hrest])
     rw [hrest] at hsum hlb
     have HS := hyd (parts_sums HG.out.places (show 0 ≤ a ∧ a ≤ 4611686018427387904 by omega))
     have hn : opens (partsOf (itemsOf S.ps) a) = a - rest := by omega
     have HGS := hyd hgs; have HOK := hyd hok; have HR := hyd hrest; have HN := hyd hn
     have hpl60 : (partsOf (itemsOf S.ps) a).length ≤ 60 := by
      have h1 := parts_len HG.out.places a
      have h2 := HG.out.np
      rw [itemsOf_len] at h1; omega
     obtain ⟨pn, hpn⟩ : ∃ pn, (partsOf (itemsOf S.ps) a).length = pn := ⟨_, rfl⟩
     rw [hpn] at hpl60
     have HPN := hyd hpn
     have hw1 : IntKind.i64.wrap (S.cr - (a - rest)) = S.cr - (a - rest) := IntWalk.i64_in _ (by omega)
     have hw2 : IntKind.i64.wrap (-(a - rest)) = rest - a := by rw [show -(a - rest) = rest - a by omega]; exact IntWalk.i64_in _ (by omega)
     have ha2 : 0 ≤ a ∧ a ≤ 4611686018427387904 := by omega
     clear ha hc hgs hit hret hok hrise hsum hrest hn hpn
     go_enter Tryz.func71, Tryz.ntmps71
     go_upto_region 1 with fail
     generalize w.alloc mvZ0 = X at *
     have HCP := hyd (rcopied_any g 0 S X HVX.out HG.out.small)
     obtain ⟨Ap, cp, Aq, cq, hg⟩ := HVX.out.cell
     obtain ⟨a0, a1, a2, a3, a4, a5⟩ := cells5U hg
     obtain ⟨z0, z1, z2, z3, z4, z5, z6⟩ := cells6U HM0.out
     have hmx := blk_lt HM0.out; have hgx := blk_lt hg
     clear hg
     go_wp2_with fail
     refine HCP.out.mono ?_; rintro e X2 ⟨gb, rfl, hgbX, hbX2, vp, vq, qs, hv2⟩
     have HPY := hyd (rpay_any gb X.heap.size S vp vq qs a ps X2 hv2 hbX2.size HG.out ha2 HGS.out)
     have HBX2 := hyd hbX2
     have hgne : g ≠ gb := by omega
     clear hbX2 hv2 HCP a0 a1 a2 a3 a4 a5
     go_wp2_with fail
     refine HPY.out.mono ?_; rintro e X3 ⟨hT, A5, c5, rfl, hv3, hp3, hl3⟩
     rw [HPN.out] at hp3 ⊢
     have HSM := hyd (rsum21_any A5 pn c5 (partsOf (itemsOf S.ps) a) X3 hp3 (by omega) HS.out)
     rw [HN.out] at HSM
     obtain ⟨Ap3, cp3, ev3, _⟩ := own_form hv3.hp
     obtain ⟨Aq3, cq3, ev4, _⟩ := own_form hv3.hq
     subst ev3 ev4
     obtain ⟨a0, a1, a2, a3, a4, a5⟩ := cells5U hv3.hg
     have hgb3 := blk_lt hv3.hg
     have hb3 : Below X.heap.size X X3 := HBX2.out.trans hT.bel
     have hp4 := (Puts.start (b := gb) (Below.refl X3.heap.size X3)).set 2 (.int .i64 (S.cr - (a - rest)))
     have hv4 := hv3.setCr (cr := S.cr - (a - rest)) hp4
     have hb4 : Below X.heap.size X (X3.setCell ⟨gb, 2, none⟩ (.int .i64 (S.cr - (a - rest)))) := hb3.setCell hgbX _
     have HTK := hyd (rtake_end g gb w.heap.size S { S with ps := ps, cr := S.cr - (a - rest) } ⟨0, 0, 0, a - rest, rest - a, 0⟩ w X _ HVX.out HB0.out hb4 (Nat.le_refl _) HM0.out ⟨_, _, _, hv4.mono (Nat.zero_le _)⟩ rfl (by have := HG.out.np; show ps.length ≤ 1000; omega) (PerOk.low HOK.out) hgne hgl)
     clear hT hv3 hp3 hl3 hb3 hp4 hv4 hb4 HPY
     go_wp2_with fail
     refine HSM.out.mono ?_; rintro e w' ⟨rfl, rfl⟩
     go_wp2_with fail
     refine HTK.out.mono ?_; rintro e w6 ⟨m', er, rfl, ⟨x0, x1, x2, x3, x4, x5, hmc⟩, _, hE, hM⟩
     obtain ⟨m0, m1, m2, m3, m4, m5, m6⟩ := cells6U hmc
     have hml := blk_lt hmc
     rw [takeS_ok (by show S.cr - (a - rest) ≤ 4611686018427387904; omega), ← HO.out] at hE
     have HE := hyd hE; have HM := hyd hM
     clear hmc hE hM HTK
     go_wp2_with fail
     exact mv_ret m' er w.heap.size rfl rfl rfl HM.out HE.out
 · rw [if_pos (by simpa using ha)]
   have HE : Hid (∀ X : World, Below w.heap.size w X → RDoesOf w g S (S, Mv.zero, 1) (.returned (mvR Mv.zero 1)) (put6 X w.heap.size Mv.zero)) := hyd (fun X hb => take_bad (S' := S) (m := Mv.zero) (er := 1) (gm := w.heap.size) HV.out hb (Nat.le_refl _) (by decide))
   by_cases h1 : a < 1
   · have t1 : decide (a < 1) = true := by simpa using h1
     clear ha h1
     go_enter Tryz.func71, Tryz.ntmps71
     go_upto_region 1 with fail
     generalize w.alloc mvZ0 = X at *
     obtain ⟨z0, z1, z2, z3, z4, z5, z6⟩ := cells6U HM0.out
     have hmx := blk_lt HM0.out
     have HM := hyd (put6_at HM0.out Mv.zero)
     have HE := hyd (HE.out X HB0.out)
     go_wp2_with fail
     exact mv_ret Mv.zero 1 w.heap.size rfl rfl rfl HM.out HE.out
   · have t1 : decide (a < 1) = false := by simpa using h1
     have t2 : decide (a > 1125899906842624) = true := by simp; omega
     clear ha h1
     go_enter Tryz.func71, Tryz.ntmps71
     go_upto_region 1 with fail
     generalize w.alloc mvZ0 = X at *
     obtain ⟨z0, z1, z2, z3, z4, z5, z6⟩ := cells6U HM0.out
     have hmx := blk_lt HM0.out
     have HM := hyd (put6_at HM0.out Mv.zero)
     have HE := hyd (HE.out X HB0.out)
     go_wp2_with fail
     exact mv_ret Mv.zero 1 w.heap.size rfl rfl rfl HM.out HE.out
theorem add_pos {x y : Int} (hx : 0 ≤ x ∧ x ≤ 4611686018427387904) (hy : 0 ≤ y ∧ y ≤ 4611686018427387904) : addS x y = if x + y ≤ 4611686018427387904 then (x + y, 0) else (0, 2) := by
 rw [addS, if_pos (by simp [amt]; omega)]
 unfold told
 by_cases hc : x + y ≤ 4611686018427387904
 · rw [if_pos (by simp [amt]; omega), if_pos hc]
 · rw [if_neg (by simp [amt]; omega), if_neg hc]
theorem takeS_pay {S : Ac} {ps : List Per} {ms : List Pm} {rest : Int} {m : Mv} (hc : 0 ≤ S.cr ∧ S.cr ≤ 4611686018427387904) (hr : 0 ≤ rest ∧ rest ≤ 4611686018427387904) :
  takeS S { S with ps := ps, cr := S.cr + rest, ms := ms } m 0 = if (addS S.cr rest).2 = 0 then ({ S with ps := ps, cr := (addS S.cr rest).1, ms := ms }, m, 0) else (S, Mv.zero, 2) := by
 rw [add_pos hc hr]
 by_cases h : S.cr + rest ≤ 4611686018427387904
 · rw [if_pos h, if_pos rfl, takeS_ok (by exact h)]
 · rw [if_neg h, if_neg (by simp), takeS_over (by exact h)]
theorem rpay_app {Y w5 : World} {gb B nm cq : Nat} {Aq : Option Addr} {S : Ac} {vp v5 v : Value} {qs : List PmE} {pm : Pm} {o : Obj} (h : RefV Y B gb S vp (.slice Aq S.ms.length cq) qs) (hn : S.ms.length = nm) (hpt : PartsAt Y v pm.parts)
  (hg : (Y.drew.alloc o).grownBy w5 (Value.slice Aq nm cq).ownBlock) (ho : w5.ownsRow B 110 6 v5 (nm + 1) (pmCs qs ++ pmC ⟨pm, v⟩)) (hB : B ≤ Y.heap.size) :
  RefV (w5.setCell ⟨gb, 4, none⟩ v5) B gb { S with ms := S.ms ++ [pm] } vp v5 (qs ++ [⟨pm, v⟩]) ∧ Below B Y (w5.setCell ⟨gb, 4, none⟩ v5) ∧ w5.heap[gb]? = some (acO S.day S.bp S.cr vp (.slice Aq S.ms.length cq)) := by
 subst hn
 have hd := h.below (Below.refl _ _).drew
 have hE := ref_app_end (pm := pm) (v := v) (v5 := v5) hd (hpt.below (Below.refl _ _).drew) hg ho hB
 exact ⟨hE.1, ((Below.refl B Y).drew).trans hE.2, own_far_type (hd.hq.alloc _) hg (blk_alloc (w := Y.drew) hd.hg _) (by decide)⟩
theorem rpay21_any (g : Nat) (S : Ac) (id a : Int) (w : World) (h : RefAt w 0 g S) (hG : Good S) :
  Calls Tryz.prog 69 #[.pointer (some ⟨g, 0, none⟩), .int .i64 id, .int .i64 a] w (RDoesOf w g S (payS S id a)) := by
 have HV := hyd h
 have hgl := h.lt
 have hb0 : Below w.heap.size w (w.alloc mvZ0) := bnewU _ _
 have HB0 := hyd hb0; have HM0 := hyd (blk_new w mvZ0 rfl)
 have HVX := hyd (h.below hb0)
 have hcr := hG.cr
 have HG := hyd hG
 have HEG : Hid (∀ er : Int, er ≠ 0 → ∀ X : World, Below w.heap.size w X → RDoesOf w g S (S, Mv.zero, er) (.returned (mvR Mv.zero er)) (put6 X w.heap.size Mv.zero)) := hyd (fun er he X hb => take_bad (S' := S) (m := Mv.zero) (gm := w.heap.size) HV.out hb (Nat.le_refl _) he)
 clear h hb0 hG
 unfold payS
 by_cases ha : (1 ≤ id ∧ id ≤ 1099511627776) ∧ 1 ≤ a ∧ a ≤ 1125899906842624
 · rw [if_neg (fun h => h ha)]
   obtain ⟨ha0, ha1⟩ := ha
   have t1 : decide (id < 1) = false := by simp; omega
   have t2 : decide (id > 1099511627776) = false := by simp; omega
   have t3 : decide (a < 1) = false := by simp; omega
   have t4 : decide (a > 1125899906842624) = false := by simp; omega
   have HPM := hyd (rpayment_any g 0 S id (w.alloc mvZ0) HVX.out (by have := HG.out.nm; omega))
   by_cases hc : 0 ≤ S.pay id
   · rw [if_pos hc]
     have t5 : decide (S.pay id ≥ 0) = true := by simpa using hc
     clear ha0 ha1 hc
     go_enter Tryz.func69, Tryz.ntmps69
     go_upto_region 1 with fail
     generalize w.alloc mvZ0 = X at *
     obtain ⟨z0, z1, z2, z3, z4, z5, z6⟩ := cells6U HM0.out
     have hmx := blk_lt HM0.out
     have HE := hyd (HEG.out 5 (by decide) X HB0.out)
     have HM := hyd (put6_at HM0.out Mv.zero)
     go_wp2_with fail
     refine HPM.out.mono ?_; rintro e w' ⟨rfl, rfl⟩
     go_wp2_with fail
     exact mv_ret Mv.zero 5 w.heap.size rfl rfl rfl HM.out HE.out
   rw [if_neg hc]
   have t5 : decide (S.pay id ≥ 0) = false := by simp; omega
   by_cases h50 : 50 ≤ S.ms.length
   · rw [if_pos h50]
     have t6 : decide ((S.ms.length : Int) ≥ 50) = true := by simp; omega
     clear ha0 ha1 hc h50
     go_enter Tryz.func69, Tryz.ntmps69
     go_upto_region 1 with fail
     generalize w.alloc mvZ0 = X at *
     obtain ⟨Ap, cp, Aq, cq, hg⟩ := HVX.out.cell
     obtain ⟨a0, a1, a2, a3, a4, a5⟩ := cells5U hg
     obtain ⟨z0, z1, z2, z3, z4, z5, z6⟩ := cells6U HM0.out
     have hmx := blk_lt HM0.out; have hgx := blk_lt hg
     have HE := hyd (HEG.out 2 (by decide) X HB0.out)
     have HM := hyd (put6_at HM0.out Mv.zero)
     go_wp2_with fail
     refine HPM.out.mono ?_; rintro e w' ⟨rfl, rfl⟩
     go_wp2_with fail
     exact mv_ret Mv.zero 2 w.heap.size rfl rfl rfl HM.out HE.out
   · rw [if_neg h50]
     have t6 : decide ((S.ms.length : Int) ≥ 50) = false := by simp; omega
     obtain ⟨ps, hgs, hit, hret, hok, hrise⟩ := HG.out.paid (show 0 ≤ a by omega)
     have hlb := leftI_bd HG.out.places (show 0 ≤ a by omega)
     obtain ⟨rest, hrest⟩ : ∃ rest, leftI (itemsOf S.ps) a = rest := ⟨_, rfl⟩
     obtain ⟨parts, hparts⟩ : ∃ parts, partsOf (itemsOf S.ps) a = parts := ⟨_, rfl⟩
     rw [hrest] at hlb
     have hpl60 : parts.length ≤ 60 := by
      have h1 := parts_len HG.out.places a
      have h2 := HG.out.np
      rw [itemsOf_len, hparts] at h1; omega
     have HO : Hid (pay1 S id a = takeS S { S with ps := ps, cr := S.cr + rest, ms := S.ms ++ [⟨id, S.day, a, parts, rest, false⟩] } ⟨0, 0, 0, a - rest, rest, a⟩ 0) := hyd (by rw [takeS_pay hcr (by omega)]; unfold pay1; rw [hgs, hrest, hparts])
     have HGS := hyd hgs; have HOK := hyd hok; have HR := hyd hrest; have HPT := hyd hparts
     obtain ⟨pn, hpn⟩ : ∃ pn, parts.length = pn := ⟨_, rfl⟩
     rw [hpn] at hpl60
     have HPN := hyd hpn
     have hw1 : IntKind.i64.wrap (S.cr + rest) = S.cr + rest := IntWalk.i64_in _ (by omega)
     have hw2 : IntKind.i64.wrap (a - rest) = a - rest := IntWalk.i64_in _ (by omega)
     have ha2 : 0 ≤ a ∧ a ≤ 4611686018427387904 := by omega
     obtain ⟨nm, hnm⟩ : ∃ nm, S.ms.length = nm := ⟨_, rfl⟩
     have HNM := hyd hnm
     have hnm50 : nm ≤ 50 := by omega
     clear ha0 ha1 hc h50 hgs hit hret hok hrise hrest hparts hpn hnm
     go_enter Tryz.func69, Tryz.ntmps69
     go_upto_region 1 with fail
     generalize w.alloc mvZ0 = X at *
     have HCP := hyd (rcopied_any g 0 S X HVX.out HG.out.small)
     obtain ⟨Ap, cp, Aq, cq, hg⟩ := HVX.out.cell
     have HGC := hyd hg
     obtain ⟨a0, a1, a2, a3, a4, a5⟩ := cells5U hg
     obtain ⟨z0, z1, z2, z3, z4, z5, z6⟩ := cells6U HM0.out
     have hmx := blk_lt HM0.out; have hgx := blk_lt hg
     clear hg
     go_wp2_with fail
     refine HPM.out.mono ?_; rintro e w' ⟨rfl, rfl⟩
     go_wp2_with fail
     refine HCP.out.mono ?_; rintro e X2 ⟨gb, rfl, hgbX, hbX2, vp, vq, qs, hv2⟩
     have HPY := hyd (rpay_any gb X.heap.size S vp vq qs a ps X2 hv2 hbX2.size HG.out ha2 HGS.out)
     have HBX2 := hyd hbX2
     have hgne : g ≠ gb := by omega
     clear hbX2 hv2 HCP a0 a1 a2 a3 a4 a5 HPM
     go_wp2_with fail
     refine HPY.out.mono ?_; rintro e X3 ⟨hT, A5, c5, rfl, hv3, hp3, hl3⟩
     rw [HPT.out] at hp3 ⊢
     rw [HPN.out] at hp3 ⊢
     rw [HR.out]
     obtain ⟨Ap3, cp3, ev3, _⟩ := own_form hv3.hp
     obtain ⟨Aq3, cq3, ev4, _⟩ := own_form hv3.hq
     subst ev3 ev4
     obtain ⟨b0, b1, b2, b3, b4, b5⟩ := cells5U hv3.hg
     have hgb3 := blk_lt hv3.hg
     have hb3 : Below X.heap.size X X3 := HBX2.out.trans hT.bel
     have hp4 := (Puts.start (b := gb) (Below.refl X3.heap.size X3)).set 2 (.int .i64 (S.cr + rest))
     have hv4 := hv3.setCr (cr := S.cr + rest) hp4
     have hpa4 := hp3.puts3 hp4 hv3.hg (by decide)
     have hb4 : Below X.heap.size X (X3.setCell ⟨gb, 2, none⟩ (.int .i64 (S.cr + rest))) := hb3.setCell hgbX _
     have HV4 := hyd hv4; have HPA4 := hyd hpa4; have HB4 := hyd hb4; have HL3 := hyd hl3
     clear hT hv3 hp3 hl3 hb3 hp4 hv4 hb4 HPY hpa4 b0 b1 b3 b4
     go_upto_region 10 with fail
     clear b2 b5 hgb3
     generalize X3.setCell ⟨gb, 2, none⟩ (.int .i64 (S.cr + rest)) = Y at *
     obtain ⟨b0, b1, b2, b3, b4, b5⟩ := cells5U HV4.out.hg
     rw [HNM.out] at b4
     have hgbY := blk_lt HV4.out.hg
     have hgaY := blk_below HGC.out HB4.out hgx
     obtain ⟨a0, a1, a2, a3, a4, a5⟩ := cells5U hgaY
     have hgYl := blk_lt hgaY
     obtain ⟨i0, hi, hz0, hz1, hz2⟩ := info_parts info_pm
     have HPQ : Hid (Y.ownsRow X.heap.size 110 6 (.slice Aq3 nm cq3) nm (pmCs qs)) := hyd (by have h := HV4.out.hq; simp only [HNM.out] at h; exact h)
     have hzY : X.heap.size ≤ Y.heap.size := HB4.out.size
     have HAPP : Hid (∀ (v5 : Value) (w5 : World) (o : Obj), (Y.drew.alloc o).grownBy w5 (Value.slice Aq3 nm cq3).ownBlock → w5.ownsRow X.heap.size 110 6 v5 (nm + 1) (pmCs qs ++ [.int .i64 id, .int .i64 S.day, .int .i64 a, .slice A5 pn c5, .int .i64 rest, .bool false]) → RefV (w5.setCell ⟨gb, 4, none⟩ v5) X.heap.size gb { S with ps := ps, cr := S.cr + rest, ms := S.ms ++ [⟨id, S.day, a, parts, rest, false⟩] } (.slice Ap3 ({ S with ps := ps } : Ac).ps.length cp3) v5 (qs ++ [⟨⟨id, S.day, a, parts, rest, false⟩, .slice A5 pn c5⟩]) ∧ Below X.heap.size Y (w5.setCell ⟨gb, 4, none⟩ v5) ∧ w5.heap[gb]? = some (acO S.day S.bp (S.cr + rest) (.slice Ap3 ({ S with ps := ps } : Ac).ps.length cp3) (.slice Aq3 S.ms.length cq3))) := hyd (fun v5 w5 o h1 h2 => rpay_app (pm := ⟨id, S.day, a, parts, rest, false⟩) (v := .slice A5 pn c5) HV4.out HNM.out HPA4.out h1 h2 hzY)
     clear hgaY a1 a2 a3 a4 b0 b1 b2 b3
     go_cut [] from 57 to 74 (fun wc => ∃ vq qs, RefV wc X.heap.size gb { S with ps := ps, cr := S.cr + rest, ms := S.ms ++ [⟨id, S.day, a, parts, rest, false⟩] } (.slice Ap3 ({ S with ps := ps } : Ac).ps.length cp3) vq qs ∧ Below X.heap.size X wc)
     case first =>
      go_region_law (refine step_app rfl (.tmp 61) (.tmp 71) 81 rfl X.heap.size 110 i0 _ 6 64 Tryz.underlying81 hi hz0 hz1 hz2 rfl (by omega) (.slice Aq3 nm cq3) nm (pmCs qs) rfl ((own_drew HPQ.out).alloc _) _ (some ⟨Y.heap.size, 0, none⟩) 1 1 _ rfl (Rd.new (w := Y.drew) (cs := #[.int .i64 id, .int .i64 S.day, .int .i64 a, .slice A5 pn c5, .int .i64 rest, .bool false]) (t := 110) rfl rfl) (by intro u hu; simp at hu; rcases hu with rfl | rfl | rfl | rfl | rfl | rfl <;> rfl) (by unfold maxLen; omega) (by omega) (by simp; omega) ?_
                     intro v5 w5 hO hgr hat
                     have hE := HAPP.out _ _ _ hgr hO
                     obtain ⟨d0, d1, d2, d3, d4, d5⟩ := cells5U hE.2.2
                     have hgl5 := blk_lt hE.2.2
                     obtain ⟨A6, c6, rfl, _⟩ := own_form hO
                     have HE := hyd hE.1; have HE2 := hyd hE.2.1
                     clear hO hgr hat hE)
      all_goals go_wp2_with fail
      all_goals go_meet
      all_goals exact ⟨_, _, HE.out, HB4.out.trans HE2.out⟩
     case rest =>
      obtain ⟨vq5, qs5, hvc, hbc⟩ := hcut
      have HTK := hyd (rtake_end g gb w.heap.size S { S with ps := ps, cr := S.cr + rest, ms := S.ms ++ [⟨id, S.day, a, parts, rest, false⟩] } ⟨0, 0, 0, a - rest, rest, a⟩ w X _ HVX.out HB0.out hbc (Nat.le_refl _) HM0.out ⟨_, _, _, hvc.mono (Nat.zero_le _)⟩ rfl (by have := HG.out.np; have := HL3.out; show ps.length ≤ 1000; omega) (PerOk.low HOK.out) hgne hgl)
      clear hvc hbc a0 a5 b4 b5 hgbY hgYl
      go_wp2_with fail
      refine HTK.out.mono ?_; rintro e w6 ⟨m', er, rfl, ⟨x0, x1, x2, x3, x4, x5, hmc⟩, _, hE, hM⟩
      obtain ⟨m0, m1, m2, m3, m4, m5, m6⟩ := cells6U hmc
      have hml := blk_lt hmc
      rw [← HO.out] at hE
      have HE := hyd hE; have HM := hyd hM
      clear hmc hE hM HTK
      go_wp2_with fail
      exact mv_ret m' er w.heap.size rfl rfl rfl HM.out HE.out
 · rw [if_pos ha]
   have HE1 := hyd (HEG.out 1 (by decide))
   by_cases h1 : id < 1
   · have t1 : decide (id < 1) = true := by simpa using h1
     clear ha h1
     go_enter Tryz.func69, Tryz.ntmps69
     go_upto_region 1 with fail
     generalize w.alloc mvZ0 = X at *
     obtain ⟨z0, z1, z2, z3, z4, z5, z6⟩ := cells6U HM0.out
     have hmx := blk_lt HM0.out
     have HM := hyd (put6_at HM0.out Mv.zero)
     have HE := hyd (HE1.out X HB0.out)
     go_wp2_with fail
     exact mv_ret Mv.zero 1 w.heap.size rfl rfl rfl HM.out HE.out
   by_cases h2 : id > 1099511627776
   · have t1 : decide (id < 1) = false := by simpa using h1
     have t2 : decide (id > 1099511627776) = true := by simpa using h2
     clear ha h1 h2
     go_enter Tryz.func69, Tryz.ntmps69
     go_upto_region 1 with fail
     generalize w.alloc mvZ0 = X at *
     obtain ⟨z0, z1, z2, z3, z4, z5, z6⟩ := cells6U HM0.out
     have hmx := blk_lt HM0.out
     have HM := hyd (put6_at HM0.out Mv.zero)
     have HE := hyd (HE1.out X HB0.out)
     go_wp2_with fail
     exact mv_ret Mv.zero 1 w.heap.size rfl rfl rfl HM.out HE.out
   by_cases h3 : a < 1
   · have t1 : decide (id < 1) = false := by simpa using h1
     have t2 : decide (id > 1099511627776) = false := by simpa using h2
     have t3 : decide (a < 1) = true := by simpa using h3
     clear ha h1 h2 h3
     go_enter Tryz.func69, Tryz.ntmps69
     go_upto_region 1 with fail
     generalize w.alloc mvZ0 = X at *
     obtain ⟨z0, z1, z2, z3, z4, z5, z6⟩ := cells6U HM0.out
     have hmx := blk_lt HM0.out
     have HM := hyd (put6_at HM0.out Mv.zero)
     have HE := hyd (HE1.out X HB0.out)
     go_wp2_with fail
     exact mv_ret Mv.zero 1 w.heap.size rfl rfl rfl HM.out HE.out
   · have t1 : decide (id < 1) = false := by simpa using h1
     have t2 : decide (id > 1099511627776) = false := by simpa using h2
     have t3 : decide (a < 1) = false := by simpa using h3
     have t4 : decide (a > 1125899906842624) = true := by simp; omega
     clear ha h1 h2 h3
     go_enter Tryz.func69, Tryz.ntmps69
     go_upto_region 1 with fail
     generalize w.alloc mvZ0 = X at *
     obtain ⟨z0, z1, z2, z3, z4, z5, z6⟩ := cells6U HM0.out
     have hmx := blk_lt HM0.out
     have HM := hyd (put6_at HM0.out Mv.zero)
     have HE := hyd (HE1.out X HB0.out)
     go_wp2_with fail
     exact mv_ret Mv.zero 1 w.heap.size rfl rfl rfl HM.out HE.out
def SetT (w : World) (B g : Nat) (S : Ac) (vp vq : Value) (qs : List PmE) (i : Nat) (r : Int × Int × Per) (e : Ending) (w' : World) : Prop :=
 Turn w B vp w' ∧ ((r.1 = 0 ∧ e = .returned (.tuple #[.int .i64 r.2.1, .int .i64 0]) ∧ RefV w' B g { S with ps := S.ps.set i r.2.2 } vp vq qs) ∨ (r.1 ≠ 0 ∧ e = .returned (.tuple #[.int .i64 0, .int .i64 r.1]) ∧ RefV w' B g S vp vq qs))
theorem rsettleT_any (g B i : Nat) (S : Ac) (vp vq : Value) (qs : List PmE) (day0 : Int) (w : World) (h : RefV w B g S vp vq qs) (hB : B ≤ w.heap.size) (hi : i < S.ps.length) (hN : S.ps.length ≤ 1000) (hd : 0 ≤ S.day ∧ S.day ≤ 3652058) (hp : PerOk day0 S.bp S.ps[i]) (hday : day0 ≤ S.day) :
  Calls Tryz.prog 122 #[.pointer (some ⟨g, 0, none⟩), .int .i64 (i : Int)] w (SetT w B g S vp vq qs i (settleS S.day S.bp S.ps[i])) := by
 obtain ⟨gp, cap, rfl, hcap, hBp, hpr⟩ := h.per hi
 obtain ⟨a0, a1, a2, a3, a4, a5⟩ := cells5U h.hg
 have hgl := blk_lt h.hg
 have hgpl := hpr.lt
 obtain ⟨⟨c0, c1, c2, c3, c4, c5, c6, c7⟩, c8, c9, c10, c11, c12⟩ := hpr.all
 obtain ⟨np, hnp⟩ : ∃ np, S.ps.length = np := ⟨_, rfl⟩
 have hin : i < np := by omega
 have a3' : w.cell? ⟨g, 3, none⟩ = some (.slice (some ⟨gp, 0, none⟩) np cap) := by rw [← hnp]; exact a3
 have hX := blk_new w (perRO S.bp S.ps[i]) rfl
 have hXb : Below w.heap.size w (w.alloc (perRO S.bp S.ps[i])) := bnewU _ _
 have hvx := h.below hXb
 have HV := hyd h; have HVX := hyd hvx; have HX := hyd hX; have HXB := hyd hXb; have HNP := hyd hnp
 have i1 : (0 : Int) ≤ (i : Int) := by omega
 have i2 : (i : Int) < (np : Int) := by omega
 clear h hpr hvx hX hXb a3 hcap hnp
 by_cases hlt : S.day < S.ps[i].since
 · have hse : settleS S.day S.bp S.ps[i] = (0, 0, S.ps[i]) := settle_early hp hday hlt
   have hset : ({ S with ps := S.ps.set i S.ps[i] } : Ac) = S := by rw [List.set_getElem_self]
   rw [hse]
   have HSET := hyd hset
   obtain ⟨p, hpe⟩ : ∃ p, S.ps[i] = p := ⟨_, rfl⟩
   rw [hpe] at HX HVX HXB HSET hlt c0 c1 c2 c3 c4 c5 c6 c7 c8 c10 c11 c12 ⊢
   have d1 : decide (S.day < p.since) = true := by simpa using hlt
   clear hse hset hlt hp hpe
   go_enter Tryz.func122, Tryz.ntmps122
   go_upto_region 2 with fail
   go_quiet (fail)
   all_goals go_wp2_with fail
   all_goals go_ret2
   all_goals exact ⟨(Turn.refl w B (.slice (some ⟨gp, 0, none⟩) S.ps.length cap)).below (below_drewN HXB.out nq) hB, .inl ⟨rfl, rfl, by rw [HSET.out]; exact HVX.out.below (below_drewN (Below.refl _ _) nq)⟩⟩
 · have hie : interestS S.day S.bp S.ps[i] = if (simpleS S.ps[i].o2 S.bp (S.day - S.ps[i].since)).2 = 0 then addS S.ps[i].done (simpleS S.ps[i].o2 S.bp (S.day - S.ps[i].since)).1 else (0, (simpleS S.ps[i].o2 S.bp (S.day - S.ps[i].since)).2) := by unfold interestS; rw [if_neg hlt]
   have hil := fun h0 => interest_later hp hday (T := S.day) h0
   have hib := interest_bd S.day S.bp S.ps[i]
   have hb1 := hp.b1; have hac := hp.acc; have hs0 := hp.since0
   have HSP := hyd (fun (W : World) (hW : RefV W B g S (.slice (some ⟨gp, 0, none⟩) S.ps.length cap) vq qs) (p' : Per) => hW.setPer hi p')
   obtain ⟨nn, er, hne⟩ : ∃ nn er, interestS S.day S.bp S.ps[i] = (nn, er) := ⟨_, _, rfl⟩
   have hse : settleS S.day S.bp S.ps[i] = if er ≠ 0 then (er, 0, S.ps[i]) else if 4611686018427387904 - S.ps[i].o1 < nn - S.ps[i].acc then (2, 0, S.ps[i]) else (0, nn - S.ps[i].acc, { S.ps[i] with o1 := S.ps[i].o1 + (nn - S.ps[i].acc), acc := nn }) := settle_shape hp hday hne
   rw [hse]
   rw [hne] at hie hil hib
   have HAT := hyd (fun (W : World) (hW : RunP W w.heap.size 8 S.ps[i].o2 S.bp S.ps[i].since S.ps[i].done) => at_anyJ w.heap.size 8 S.ps[i].o2 S.bp S.ps[i].since S.ps[i].done S.day W hW hs0 (by simpa [okD] using hd) hlt)
   rw [← hie] at HAT
   obtain ⟨p, hpe⟩ : ∃ p, S.ps[i] = p := ⟨_, rfl⟩
   rw [hpe] at HX HVX HXB HAT hlt hil hb1 hac c0 c1 c2 c3 c4 c5 c6 c7 c8 c10 c11 c12 ⊢
   have d1 : decide (S.day < p.since) = false := by simpa using hlt
   have HIL := hyd hil
   obtain ⟨R, hR⟩ : ∃ R, (if er ≠ 0 then (er, 0, p) else if 4611686018427387904 - p.o1 < nn - p.acc then (2, 0, p) else (0, nn - p.acc, { p with o1 := p.o1 + (nn - p.acc), acc := nn }) : Int × Int × Per) = R := ⟨_, rfl⟩
   rw [hR]
   have HRR := hyd hR
   clear hse hlt hp hpe hie hne hs0 hil hR
   go_enter Tryz.func122, Tryz.ntmps122
   go_upto_region 2 with fail
   obtain ⟨gl, hgl2⟩ : ∃ gl, w.heap.size = gl := ⟨_, rfl⟩
   rw [hgl2] at HX HAT hB hgl hgpl ⊢
   go_quiet (fail)
   have hbq : Below (w.alloc (perRO S.bp p)).heap.size (w.alloc (perRO S.bp p)) ((w.alloc (perRO S.bp p)).drewN nq) := below_drewN (Below.refl _ _) _
   have hVQ := HVX.out.below hbq
   have hXQ : ((w.alloc (perRO S.bp p)).drewN nq).heap[gl]? = some (.cells #[.int .i64 p.ret.per, .int .i64 p.ret.due, .int .i64 p.ret.filed, .int .i64 p.ret.inc, .int .i64 p.ret.wh, .int .i64 p.o0, .int .i64 p.o1, .int .i64 p.o2, .int .i64 p.o2, .int .i64 S.bp, .int .i64 p.since, .int .i64 p.done, .int .i64 p.acc] 169 (0, 0)) := HX.out
   have hBQ : Turn w B (.slice (some ⟨gp, 0, none⟩) S.ps.length cap) ((w.alloc (perRO S.bp p)).drewN nq) := (Turn.refl w B _).below (below_drewN HXB.out nq) (by omega)
   clear hbq c0 c1 c2 c3 c4 c5 c6 c7 c8 c9 c10 c11 c12 a0 a1 a2 a3' a4 a5
   generalize (w.alloc (perRO S.bp p)).drewN nq = X at *
   have HVQ := hyd hVQ; have HXQ := hyd hXQ; have HBQ := hyd hBQ
   have HA2 := hyd (HAT.out X ⟨blk_cell hXQ 8, blk_cell hXQ 9, blk_cell hXQ 10, blk_cell hXQ 11, fun j => blk_free hXQ j, blk_lt hXQ⟩)
   obtain ⟨a0, a1, a2, a3, a4, a5⟩ := cells5U hVQ.hg
   have hglx := blk_lt hVQ.hg; have hglx2 := blk_lt hXQ
   clear hVQ hXQ hBQ HX HVX HXB HAT
   go_wp2_with fail
   refine HA2.out.mono ?_; rintro e w2 ⟨rfl, hb2⟩
   have hv2 := HVQ.out.below hb2
   have hx2 := blk_below HXQ.out hb2 hglx2
   have HV2 := hyd hv2; have HX2 := hyd hx2; have HB2 := hyd (HBQ.out.below hb2 (Nat.le_trans (by omega) HBQ.out.size))
   clear hb2 HA2 a0 a1 a2 a3 a4 a5 hv2 hx2
   by_cases h0 : er = 0
   · subst h0
     have hil := HIL.out rfl
     have hR1 := HRR.out
     rw [if_neg (by simp)] at hR1
     have x0 := blk_cell HX2.out 0; have x1 := blk_cell HX2.out 1; have x2 := blk_cell HX2.out 2; have x3 := blk_cell HX2.out 3; have x4 := blk_cell HX2.out 4; have x5 := blk_cell HX2.out 5; have x6 := blk_cell HX2.out 6
     have x7 := blk_cell HX2.out 7; have x8 := blk_cell HX2.out 8; have x9 := blk_cell HX2.out 9; have x10 := blk_cell HX2.out 10; have x11 := blk_cell HX2.out 11; have x12 := blk_cell HX2.out 12
     simp only [List.getElem?_toArray, List.getElem?_cons_succ, List.getElem?_cons_zero] at x0 x1 x2 x3 x4 x5 x6 x7 x8 x9 x10 x11 x12
     have xf := fun j => blk_free HX2.out j
     have hxl := blk_lt HX2.out
     obtain ⟨a0, a1, a2, a3, a4, a5⟩ := cells5U HV2.out.hg
     rw [HNP.out] at a3
     have hgl3 := blk_lt HV2.out.hg
     obtain ⟨gp', cap', e1, hcap, _, hpr⟩ := HV2.out.per hi
     injection e1 with e1 _ e3; injection e1 with e1; injection e1 with e1 _ _; subst e1; subst e3
     obtain ⟨mo, hmo⟩ : ∃ mo, nn - p.acc = mo := ⟨_, rfl⟩
     rw [hmo] at hR1
     have hw1 : IntKind.i64.wrap (nn - p.acc) = mo := by rw [hmo]; exact IntWalk.i64_in _ (by omega)
     have hw2 : IntKind.i64.wrap (4611686018427387904 - p.o1) = 4611686018427387904 - p.o1 := IntWalk.i64_in _ (by omega)
     have hmb : 0 ≤ mo ∧ mo ≤ 4611686018427387904 := by omega
     by_cases hbig : 4611686018427387904 - p.o1 < mo
     · rw [if_pos hbig] at hR1
       have HR1 := hyd hR1
       have d2 : decide (mo > 4611686018427387904 - p.o1) = true := by simpa using hbig
       clear hbig hpr hmo hR1
       go_wp2_with fail
       go_ret2
       rw [← HR1.out]
       exact ⟨HB2.out, .inr ⟨by simp, rfl, HV2.out⟩⟩
     · rw [if_neg hbig] at hR1
       have HR1 := hyd hR1
       have d2 : decide (mo > 4611686018427387904 - p.o1) = false := by simpa using hbig
       have hw3 : IntKind.i64.wrap (p.o1 + mo) = p.o1 + mo := IntWalk.i64_in _ (by omega)
       have hgpne : gp ≠ gl := by omega
       have hgplt := hpr.lt
       have HPR := hyd hpr
       clear hbig hpr hmo hR1
       go_upto_region 12 with fail
       obtain ⟨_, _, hgb⟩ := own_block_type HV2.out.hp (b := gp) rfl
       have hv3 := (HV2.out.setFar (gl := gl) hgpne HX2.out 6 (.int .i64 (p.o1 + mo)))
       have hx3 := blk_set HX2.out 6 (.int .i64 (p.o1 + mo))
       have hv4 := (hv3.setFar (gl := gl) hgpne hx3 12 (.int .i64 nn))
       have hx4 := blk_set hx3 12 (.int .i64 nn)
       have hb4 : Turn w B (.slice (some ⟨gp, 0, none⟩) S.ps.length cap) ((w2.setCell ⟨gl, 6, none⟩ (.int .i64 (p.o1 + mo))).setCell ⟨gl, 12, none⟩ (.int .i64 nn)) := (HB2.out.far1 (by omega) (by omega)).far1 (by omega) (by omega)
       clear x0 x1 x2 x3 x4 x5 x6 x7 x8 x9 x10 x11 x12 xf hxl a0 a1 a2 a3 a4 a5 hgl3 hgb hv3 hx3 hgplt
       generalize (w2.setCell ⟨gl, 6, none⟩ (.int .i64 (p.o1 + mo))).setCell ⟨gl, 12, none⟩ (.int .i64 nn) = Y at *
       have hx5 : Y.heap[gl]? = some (.cells #[.int .i64 p.ret.per, .int .i64 p.ret.due, .int .i64 p.ret.filed, .int .i64 p.ret.inc, .int .i64 p.ret.wh, .int .i64 p.o0, .int .i64 (p.o1 + mo), .int .i64 p.o2, .int .i64 p.o2, .int .i64 S.bp, .int .i64 p.since, .int .i64 p.done, .int .i64 nn] 169 (0, 0)) := hx4
       have x0 := blk_cell hx5 0; have x1 := blk_cell hx5 1; have x2 := blk_cell hx5 2; have x3 := blk_cell hx5 3; have x4 := blk_cell hx5 4; have x5 := blk_cell hx5 5; have x6 := blk_cell hx5 6
       have x7 := blk_cell hx5 7; have x8 := blk_cell hx5 8; have x9 := blk_cell hx5 9; have x10 := blk_cell hx5 10; have x11 := blk_cell hx5 11; have x12 := blk_cell hx5 12
       simp only [List.getElem?_toArray, List.getElem?_cons_succ, List.getElem?_cons_zero] at x0 x1 x2 x3 x4 x5 x6 x7 x8 x9 x10 x11 x12
       have hxl := blk_lt hx5
       obtain ⟨a0, a1, a2, a3, a4, a5⟩ := cells5U hv4.hg
       rw [HNP.out] at a3
       have hgl3 := blk_lt hv4.hg
       obtain ⟨gp', cap', e1, _, _, hpr⟩ := hv4.per hi
       injection e1 with e1 _ e3; injection e1 with e1; injection e1 with e1 _ _; subst e1; subst e3
       obtain ⟨⟨c0, c1, c2, c3, c4, c5, c6, c7⟩, c8, c9, c10, c11, c12⟩ := hpr.all
       have f0 := hpr.f 0 (by omega); have f1 := hpr.f 1 (by omega); have f2 := hpr.f 2 (by omega); have f3 := hpr.f 3 (by omega); have f4 := hpr.f 4 (by omega); have f5 := hpr.f 5 (by omega); have f6 := hpr.f 6 (by omega)
       have f7 := hpr.f 7 (by omega); have f8 := hpr.f 8 (by omega); have f9 := hpr.f 9 (by omega); have f10 := hpr.f 10 (by omega); have f11 := hpr.f 11 (by omega); have f12 := hpr.f 12 (by omega)
       have hgpl2 := hpr.lt
       rw [Nat.add_zero] at f0
       have HV4 := hyd hv4; have HB4 := hyd hb4
       clear hv4 hx4 hx5 hb4 hpr
       have HFIN : Hid (RefV (put13 Y gp (i * 13) S.bp { p with o1 := p.o1 + mo, acc := nn }).drew B g { S with ps := S.ps.set i { p with o1 := p.o1 + mo, acc := nn } } (.slice (some ⟨gp, 0, none⟩) S.ps.length cap) vq qs ∧ Turn w B (.slice (some ⟨gp, 0, none⟩) S.ps.length cap) (put13 Y gp (i * 13) S.bp { p with o1 := p.o1 + mo, acc := nn }).drew) := hyd (by
        rw [put13_eq]
        exact ⟨(HSP.out Y HV4.out _).below (Below.refl _ _).drew, (HB4.out.many hBp).drew⟩)
       go_region_law (fail)
       clear x0 x1 x2 x3 x4 x5 x6 x7 x8 x9 x10 x11 x12 c0 c1 c2 c3 c4 c5 c6 c7 c8 c9 c10 c11 c12 f0 f1 f2 f3 f4 f5 f6 f7 f8 f9 f10 f11 f12
       all_goals go_wp2_with fail
       all_goals go_ret2
       all_goals rw [← HR1.out]
       all_goals exact ⟨HFIN.out.2, .inl ⟨rfl, rfl, HFIN.out.1⟩⟩
   · have he' : (er != 0) = true := by simpa using h0
     have hR1 := HRR.out
     rw [if_pos h0] at hR1
     have HR1 := hyd hR1
     have H0 := hyd h0
     clear h0 hR1
     go_wp2_with fail
     go_ret2
     rw [← HR1.out]
     exact ⟨HB2.out, .inr ⟨H0.out, rfl, HV2.out⟩⟩
theorem RefV.putq {w w' : World} {B g gq cap : Nat} {S : Ac} {vp : Value} {qs qs' : List PmE} {us : List (Nat × Value)} {ms : List Pm} (h : RefV w B g S vp (.slice (some ⟨gq, 0, none⟩) S.ms.length cap) qs) (hp : Puts w gq us w')
  (hl : ms.length = S.ms.length) (hm : qs'.map PmE.p = ms) (hu : us.foldl (fun a u => a.set u.1 u.2) (pmCs qs) = pmCs qs') (hq : ∀ q ∈ qs', PartsAt w q.v q.p.parts) (hn : 0 < S.ms.length) : RefV w' B g { S with ms := ms } vp (.slice (some ⟨gq, 0, none⟩) S.ms.length cap) qs' := by
 obtain ⟨b1, cs, hcs⟩ := own_block_type h.hq (b := gq) rfl
 refine ⟨(hp.far g (blk_lt h.hg) (ne_of_type' h.hg hcs (by decide))).trans h.hg, h.hB, own_apart h.hp hp (fun e => ?_), by rw [hl, ← hu]; exact own_puts h.hq hp, hm, fun q hqq => (hq q hqq).keep fun b cs' hb => hp.far b (blk_lt hb) (ne_of_type' hb hcs (by decide))⟩
 obtain ⟨_, cs', hcs'⟩ := own_block_type h.hp e
 exact ne_of_type' hcs' hcs (by decide) rfl
structure RefW (w : World) (B g : Nat) (S : Ac) (vp vq : Value) (qs : List PmE) : Prop where
 hg : w.heap[g]? = some (.cells #[.int .i64 S.day, .int .i64 S.bp, .int .i64 S.cr, vp, vq] 123 (0, 0))
 hq : w.ownsRow B 110 6 vq S.ms.length (pmCs qs)
 parts : ∀ q ∈ qs, PartsAt w q.v q.p.parts
theorem RefV.turnW {w w' : World} {B g : Nat} {S : Ac} {vp vq : Value} {qs : List PmE} (h : RefV w B g S vp vq qs) (hT : Turn w B vp w') : RefW w' B g S vp vq qs := by
 have far : ∀ {k : Nat} {cs : Array Value} {t : TypeId} {fr : Nat × Nat}, w.heap[k]? = some (.cells cs t fr) → t ≠ 169 → w'.heap[k]? = w.heap[k]? := fun hk ht => hT.gr.block _ (blk_lt hk) (fun e => by
  obtain ⟨_, cs', hcs⟩ := own_block_type h.hp e.symm
  exact ne_of_type' hk hcs ht rfl)
 exact ⟨(far h.hg (by decide)).trans h.hg, own_keep h.hq fun b cs hb => far hb (by decide), fun q hq => (h.parts q hq).keep fun b cs hb => far hb (by decide)⟩
theorem Turn.boxR {w w' : World} {B g : Nat} {S : Ac} {vp vq : Value} {qs : List PmE} {cs : Array Value} {t : Nat} {fr : Nat × Nat} {k : Nat} (h : Turn w B vp w') (ho : RefV w B g S vp vq qs) (hk : w.heap[k]? = some (.cells cs t fr)) (ht : t ≠ 169) : w'.heap[k]? = some (.cells cs t fr) := by
 refine (h.gr.block k (blk_lt hk) (fun e => ?_)).trans hk
 obtain ⟨_, cs', hcs⟩ := own_block_type ho.hp e.symm
 exact ne_of_type' hk hcs ht rfl
theorem RefW.setCr {w w' : World} {B g : Nat} {S : Ac} {vp vq : Value} {qs : List PmE} {cr : Int} (h : RefW w B g S vp vq qs) (hp : Puts w g [(2, .int .i64 cr)] w') : RefW w' B g { S with cr := cr } vp vq qs :=
 ⟨hp.near _ _ _ h.hg, own_apart h.hq hp (fun e => by obtain ⟨_, cs, hcs⟩ := own_block_type h.hq e; exact ne_of_type' h.hg hcs (by decide) rfl), fun q hq => (h.parts q hq).puts3 hp h.hg (by decide)⟩
theorem RefW.below {w w' : World} {B g : Nat} {S : Ac} {vp vq : Value} {qs : List PmE} (h : RefW w B g S vp vq qs) (hb : Below w.heap.size w w') : RefW w' B g S vp vq qs :=
 ⟨blk_below h.hg hb (blk_lt h.hg), own_below h.hq hb, fun q hq => (h.parts q hq).below hb⟩
theorem rtake_end2 (g gb gm : Nat) (S S' : Ac) (m : Mv) (er : Int) (w X Y : World) (h : RefAt X 0 g S) (hX : Below w.heap.size w X) (hY : Below X.heap.size X Y) (hgm : w.heap.size ≤ gm) (hm : X.heap[gm]? = some mvZ0) (hb : er = 0 → RefAt Y 0 gb S' ∧ S'.bp = S.bp ∧ S'.ps.length ≤ 1000 ∧ LowP S'.ps) (hne : g ≠ gb) (hgg : g < w.heap.size) :
  Calls Tryz.prog 123 #[.pointer (some ⟨g, 0, none⟩), .pointer (some ⟨gb, 0, none⟩), mvV m, .int .i64 er] Y fun e w' => ∃ m' er', e = .returned (mvR m' er') ∧ (∃ x0 x1 x2 x3 x4 x5, w'.heap[gm]? = some (.cells #[x0, x1, x2, x3, x4, x5] 33 (0, 0))) ∧ RDoesOf w g S (takeS S S' m er) (.returned (mvR m' er')) (put6 w' gm m') ∧ (put6 w' gm m').heap[gm]? = some (.cells #[.int .i64 m'.c0, .int .i64 m'.c1, .int .i64 m'.c2, .int .i64 m'.paid, .int .i64 m'.cr, .int .i64 m'.cash] 33 (0, 0)) := by
 have hT := rtake_any g gb S S' m er Y (h.below hY) hb hne
 refine hT.mono ?_
 intro e w' hd
 obtain ⟨m', er', rfl⟩ := hd.form
 have hm1 := rmove_keeps hd (blk_below hm hY (blk_lt hm)) (by omega)
 exact ⟨m', er', rfl, ⟨_, _, _, _, _, _, hm1⟩, hd.wrap (hX.trans (hY.mono hX.size)) hm1 hgm, put6_at hm1 m'⟩
end Go.Proofs.YtbjjgnaojoaoiaaGreat
