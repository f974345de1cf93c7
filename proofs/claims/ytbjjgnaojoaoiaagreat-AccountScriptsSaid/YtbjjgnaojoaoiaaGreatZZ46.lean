/- Laws. -/
import Derived.Test.YtbjjgnaojoaoiaaGreatZZ44
import Derived.Test.YtbjjgnaojoaoiaaGreatZZ45
import Derived.Test.YtbjjgnaojoaoiaaGreatZZ36
import Derived.Test.YtbjjgnaojoaoiaaGreatZZ39
namespace Go.Proofs.YtbjjgnaojoaoiaaGreat
open Go.RowKit Go
set_option linter.unusedVariables false
set_option linter.unusedSimpArgs false
set_option maxHeartbeats 6400000
set_option maxRecDepth 100000
theorem theirs_any (g : Nat) (S : Ac) (t : Stp) (w : World) (h : RefAt w 0 g S) (hG : Good S) (hr : Rd w w.heap.size 2 t.A t.s.bs.length (brCs t.s.bs)) :
  Calls Tryz.prog 30 #[.pointer (some ⟨g,0,none⟩),stpV t] w (RDoesOf w g S (stepS S t)) := by
 have hgl := h.lt
 obtain ⟨hb0,hm0,hz0⟩ := ours0_facts w t
 have HV0 := hyd (h.below hb0)
 have HR0 := hyd ((hr.below hb0).wider hb0.size)
 have n1 : w.heap.size + 1 ≠ g := by omega
 have HB0 := hyd hb0;have HM0 := hyd hm0;have HG := hyd hG
 clear h hr hb0 hm0 hz0 hG
 by_cases h0 : t.act = 0
 · have HD := hyd (rfile_any g S t.A t.s.bs.length t.c t.s t.r _ HV0.out HG.out rfl HR0.out)
   have HS : Hid (stepS S t = fileS S t.s t.r) := hyd (by unfold stepS;rw [if_pos h0])
   have e0 : (t.act == 0) = true := by simp [h0]
   clear h0 HV0 HR0
   go_enter Tryz.func30,Tryz.ntmps30
   go_wp2_with fail
   refine HD.out.mono ?_;intro e w1 hd
   obtain ⟨m,er,rfl⟩ := hd.form
   have hm := rmove_keeps hd HM0.out n1
   obtain ⟨m0,m1,m2,m3,m4,m5,m6⟩ := cells6U hm
   have HE := hyd (RDoesOf.wrap HB0.out hd hm (by omega));have HM := hyd (put6_at hm m)
   clear hd hm HD
   go_wp2_with fail
   rw [HS.out]
   exact mv_ret m er (w.heap.size + 1) rfl rfl rfl HM.out HE.out
 have e0 : (t.act == 0) = false := by simp [h0]
 by_cases h1 : t.act = 1
 · have HD := hyd (ramend_any g S t.A t.s.bs.length t.c t.s t.n t.a t.b _ HV0.out HG.out rfl HR0.out)
   have HS : Hid (stepS S t = amendS S t.s t.n t.a t.b) := hyd (by unfold stepS;rw [if_neg h0,if_pos h1])
   have e1 : (t.act == 1) = true := by simp [h1]
   clear h0 h1 HV0 HR0
   go_enter Tryz.func30,Tryz.ntmps30
   go_wp2_with fail
   refine HD.out.mono ?_;intro e w1 hd
   obtain ⟨m,er,rfl⟩ := hd.form
   have hm := rmove_keeps hd HM0.out n1
   obtain ⟨m0,m1,m2,m3,m4,m5,m6⟩ := cells6U hm
   have HE := hyd (RDoesOf.wrap HB0.out hd hm (by omega));have HM := hyd (put6_at hm m)
   clear hd hm HD
   go_wp2_with fail
   rw [HS.out]
   exact mv_ret m er (w.heap.size + 1) rfl rfl rfl HM.out HE.out
 have e1 : (t.act == 1) = false := by simp [h1]
 by_cases h2 : t.act = 2
 · have HD := hyd (rpay21_any g S t.n t.a _ HV0.out HG.out)
   have HS : Hid (stepS S t = payS S t.n t.a) := hyd (by unfold stepS;rw [if_neg h0,if_neg h1,if_pos h2])
   have e2 : (t.act == 2) = true := by simp [h2]
   clear h0 h1 h2 HV0 HR0
   go_enter Tryz.func30,Tryz.ntmps30
   go_wp2_with fail
   refine HD.out.mono ?_;intro e w1 hd
   obtain ⟨m,er,rfl⟩ := hd.form
   have hm := rmove_keeps hd HM0.out n1
   obtain ⟨m0,m1,m2,m3,m4,m5,m6⟩ := cells6U hm
   have HE := hyd (RDoesOf.wrap HB0.out hd hm (by omega));have HM := hyd (put6_at hm m)
   clear hd hm HD
   go_wp2_with fail
   rw [HS.out]
   exact mv_ret m er (w.heap.size + 1) rfl rfl rfl HM.out HE.out
 have e2 : (t.act == 2) = false := by simp [h2]
 by_cases h3 : t.act = 3
 · have HD := hyd (rreverse_any g S t.n _ HV0.out HG.out)
   have HS : Hid (stepS S t = reverseS S t.n) := hyd (by unfold stepS;rw [if_neg h0,if_neg h1,if_neg h2,if_pos h3])
   have e3 : (t.act == 3) = true := by simp [h3]
   clear h0 h1 h2 h3 HV0 HR0
   go_enter Tryz.func30,Tryz.ntmps30
   go_wp2_with fail
   refine HD.out.mono ?_;intro e w1 hd
   obtain ⟨m,er,rfl⟩ := hd.form
   have hm := rmove_keeps hd HM0.out n1
   obtain ⟨m0,m1,m2,m3,m4,m5,m6⟩ := cells6U hm
   have HE := hyd (RDoesOf.wrap HB0.out hd hm (by omega));have HM := hyd (put6_at hm m)
   clear hd hm HD
   go_wp2_with fail
   rw [HS.out]
   exact mv_ret m er (w.heap.size + 1) rfl rfl rfl HM.out HE.out
 have e3 : (t.act == 3) = false := by simp [h3]
 by_cases h4 : t.act = 4
 · have HD := hyd (roffset_any g S t.a _ HV0.out HG.out)
   have HS : Hid (stepS S t = offsetS S t.a) := hyd (by unfold stepS;rw [if_neg h0,if_neg h1,if_neg h2,if_neg h3,if_pos h4])
   have e4 : (t.act == 4) = true := by simp [h4]
   clear h0 h1 h2 h3 h4 HV0 HR0
   go_enter Tryz.func30,Tryz.ntmps30
   go_wp2_with fail
   refine HD.out.mono ?_;intro e w1 hd
   obtain ⟨m,er,rfl⟩ := hd.form
   have hm := rmove_keeps hd HM0.out n1
   obtain ⟨m0,m1,m2,m3,m4,m5,m6⟩ := cells6U hm
   have HE := hyd (RDoesOf.wrap HB0.out hd hm (by omega));have HM := hyd (put6_at hm m)
   clear hd hm HD
   go_wp2_with fail
   rw [HS.out]
   exact mv_ret m er (w.heap.size + 1) rfl rfl rfl HM.out HE.out
 have e4 : (t.act == 4) = false := by simp [h4]
 by_cases h5 : t.act = 5
 · have HD := hyd (rrefund_any g S t.a _ HV0.out HG.out)
   have HS : Hid (stepS S t = refundS S t.a) := hyd (by unfold stepS;rw [if_neg h0,if_neg h1,if_neg h2,if_neg h3,if_neg h4,if_pos h5])
   have e5 : (t.act == 5) = true := by simp [h5]
   clear h0 h1 h2 h3 h4 h5 HV0 HR0
   go_enter Tryz.func30,Tryz.ntmps30
   go_wp2_with fail
   refine HD.out.mono ?_;intro e w1 hd
   obtain ⟨m,er,rfl⟩ := hd.form
   have hm := rmove_keeps hd HM0.out n1
   obtain ⟨m0,m1,m2,m3,m4,m5,m6⟩ := cells6U hm
   have HE := hyd (RDoesOf.wrap HB0.out hd hm (by omega));have HM := hyd (put6_at hm m)
   clear hd hm HD
   go_wp2_with fail
   rw [HS.out]
   exact mv_ret m er (w.heap.size + 1) rfl rfl rfl HM.out HE.out
 have e5 : (t.act == 5) = false := by simp [h5]
 have HD := hyd (radvance_any g S t.n _ HV0.out HG.out)
 have HS : Hid (stepS S t = advanceS S t.n) := hyd (by unfold stepS;rw [if_neg h0,if_neg h1,if_neg h2,if_neg h3,if_neg h4,if_neg h5])
 clear h0 h1 h2 h3 h4 h5 HV0 HR0
 go_enter Tryz.func30,Tryz.ntmps30
 go_wp2_with fail
 refine HD.out.mono ?_;intro e w1 hd
 obtain ⟨m,er,rfl⟩ := hd.form
 have hm := rmove_keeps hd HM0.out n1
 obtain ⟨m0,m1,m2,m3,m4,m5,m6⟩ := cells6U hm
 have HE := hyd (RDoesOf.wrap HB0.out hd hm (by omega));have HM := hyd (put6_at hm m)
 clear hd hm HD
 go_wp2_with fail
 rw [HS.out]
 exact mv_ret m er (w.heap.size + 1) rfl rfl rfl HM.out HE.out
theorem size_i64s (w : World) : (sizeOf 2).run Tryz.prog w = .ok 1 w := by kernel_rfl
theorem eqA3s (d : Nat) (a0 a1 a2 : Int) (w : World) : (Op.equalIn (d + 2) 31 (.agg #[.int .i64 a0,.int .i64 a1,.int .i64 a2]) (.agg #[.int .i64 a0,.int .i64 a1,.int .i64 a2])).run Tryz.prog w = .ok true w := by
 have he := Tryz.underlying2
 have ht := Tryz.underlying31
 rw [Op.equalIn]
 simp only [Sem.run_bind,run_underlying ht,Result.andThen_ok,size_i64s,Std.Legacy.Range.forIn_eq_forIn_range',Std.Legacy.Range.size,Nat.sub_zero,Nat.add_sub_cancel,Nat.div_one]
 simp [List.range'_succ,part,isAgg,run_underlying he,run_equalIn_int w d 2 .i64 .i64 _ _ he]
theorem neqMvs (w : World) (a0 a1 a2 a3 a4 a5 : Int) : (binOp .neq 33 (.agg #[.int .i64 a0,.int .i64 a1,.int .i64 a2,.int .i64 a3,.int .i64 a4,.int .i64 a5]) (.agg #[.int .i64 a0,.int .i64 a1,.int .i64 a2,.int .i64 a3,.int .i64 a4,.int .i64 a5])).run Tryz.prog w = .ok (.bool false) w := by
 have he := Tryz.underlying2
 have ht := Tryz.underlying31
 have hm := Tryz.underlying33
 have hS : Tryz.prog.underlying 33 = some (.struct (Tryz.prog.fieldsOf 33)) := by kernel_rfl
 have hp : Tryz.prog.stoodInHeld 33 = false := by kernel_rfl
 have h3 := eqA3s 9997 a0 a1 a2
 have hsz : ∀ w,(sizeOf 31).run Tryz.prog w = .ok 3 w := fun w => by kernel_rfl
 rw [run_neq_struct,show (10000 : Nat) = 9999 + 1 from rfl,run_equalIn_agg w 9999 _ _ _ hS hp]
 simp only [Program.fieldsOf,hm]
 simp [Op.eqFields,part,isAgg,run_underlying he,run_underlying ht,hsz,h3,run_equalIn_int _ _ 2 .i64 .i64 _ _ he]
structure BothZ (w wr : World) (ga gr : Nat) (S : Ac) : Prop where
 own : OwnAt wr 0 ga S
 ref : RefAt wr 0 gr S
 good : Good S
 bel : Below w.heap.size w wr
structure HalfZ (w wr : World) (ga gr : Nat) (S S2 : Ac) : Prop where
 own : OwnAt wr 0 ga S2
 ref : RefAt wr 0 gr S
 bel : Below w.heap.size w wr
theorem BothZ.below {w wr w' : World} {ga gr : Nat} {S : Ac} (h : BothZ w wr ga gr S) (hb : Below wr.heap.size wr w') : BothZ w w' ga gr S := ⟨h.own.below hb,h.ref.below hb,h.good,h.bel.trans (hb.mono h.bel.size)⟩
theorem HalfZ.below {w wr w' : World} {ga gr : Nat} {S S2 : Ac} (h : HalfZ w wr ga gr S S2) (hb : Below wr.heap.size wr w') : HalfZ w w' ga gr S S2 := ⟨h.own.below hb,h.ref.below hb,h.bel.trans (hb.mono h.bel.size)⟩
theorem grown_bel {w wr w' : World} {g : Nat} (hb : Below w.heap.size w wr) (hg : w.heap.size ≤ g) (hd : wr.grownBy w' (some g)) : Below w.heap.size w w' :=
 ⟨hd.os.trans hb.os,hd.tape.trans hb.tape,hd.output.trans hb.output,Nat.le_trans hb.size hd.size,fun k hk => (hd.block k (Nat.lt_of_lt_of_le hk hb.size) (fun e => by have := Option.some.inj e;omega)).trans (hb.block k hk)⟩
@[reducible] def mvO6s (m0 m1 m2 m3 m4 m5 : Int) : Obj := .cells #[.int .i64 m0,.int .i64 m1,.int .i64 m2,.int .i64 m3,.int .i64 m4,.int .i64 m5] 33
def stepMv (r : Ac × Mv × Int) : Mv := if r.2.2 = 0 then r.2.1 else Mv.zero
theorem BothZ.ours {w wr w' : World} {ga gr : Nat} {S : Ac} {t : Stp} {e : Ending} (h : BothZ w wr ga gr S) (hg : w.heap.size ≤ ga) (hd : DoesOf wr ga S (stepS S t) e w') : e = .returned (mvR (stepMv (stepS S t)) (stepS S t).2.2) ∧ HalfZ w w' ga gr S (stepS S t).1 := by
 have hr := hd.ref h.own h.ref
 have hb := grown_bel h.bel hg hd.1
 unfold stepMv
 rcases hd.2 with ⟨h0,he,ho⟩ | ⟨h0,he,ho⟩
 · rw [if_pos h0]
   exact ⟨by rw [h0];exact he,ho,hr,hb⟩
 · rw [if_neg h0]
   exact ⟨he,by rw [step_same h0];exact ho,hr,hb⟩
theorem HalfZ.theirs {w wr w' : World} {ga gr : Nat} {S : Ac} {t : Stp} {e : Ending} (h : HalfZ w wr ga gr S (stepS S t).1) (hG : Good S) (hg : w.heap.size ≤ gr) (hd : RDoesOf wr gr S (stepS S t) e w') : e = .returned (mvR (stepMv (stepS S t)) (stepS S t).2.2) ∧ BothZ w w' ga gr (stepS S t).1 := by
 have ho := hd.own h.ref h.own
 have hb := grown_bel h.bel hg hd.1
 unfold stepMv
 rcases hd.2 with ⟨h0,he,hr⟩ | ⟨h0,he,hr⟩
 · rw [if_pos h0]
   exact ⟨by rw [h0];exact he,ho,hr,hG.step t,hb⟩
 · rw [if_neg h0]
   exact ⟨he,ho,by rw [step_same h0];exact hr,hG.step t,hb⟩
theorem accountScripts_walk (day bp : Int) (A : Option Addr) (n c : Nat) (l : List Stp) (w : World) (h : RdS w A n l) (hm : n ≤ maxLen) :
  Calls Tryz.prog 8 #[.int .i64 day,.int .i64 bp,.slice A n c] w fun e w' => e = .returned (.bool true) ∧ Below w.heap.size w w' := by
 have HR := hyd h;have HM := hyd hm
 unfold maxLen at hm
 have HN := hyd h.len
 clear h
 go_enter Tryz.func8,Tryz.ntmps8
 go_wp2_with fail
 refine (wake_any w).mono ?_;rintro e w1 ⟨rfl,hb1⟩
 have HB1 := hyd hb1
 have HMU := hyd (much_any A n c l w1 (HR.out.below hb1) HM.out)
 clear hb1
 go_wp2_with fail
 refine HMU.out.mono ?_;rintro e w1' ⟨⟨bm,rfl⟩,rfl⟩
 clear HMU
 by_cases hok : (0 ≤ day ∧ day ≤ 3652058) ∧ 0 ≤ bp ∧ bp ≤ 100000
 · go_wp2_with fail
   refine (new_yes day bp w1 hok.1 hok.2).mono ?_;rintro e w2 ⟨rfl,ho2,hb2⟩
   have HO2 := hyd ho2
   have HB2 := hyd (HB1.out.trans (hb2.mono HB1.out.size))
   have hga2 := ho2.lt
   have hga : w.heap.size ≤ w1.heap.size := HB1.out.size
   clear ho2 hb2
   go_wp2_with fail
   refine (rnew_yes day bp w2 hok.1 hok.2).mono ?_;rintro e w3 ⟨rfl,hr3,hb3⟩
   have HZ0 : Hid (BothZ w w3 w1.heap.size w2.heap.size (Ac.new day bp)) := hyd ⟨(HO2.out.below hb3).mono (Nat.zero_le _),hr3.mono (Nat.zero_le _),Good.new hok.1 hok.2,HB2.out.trans (hb3.mono HB2.out.size)⟩
   have hgr : w.heap.size ≤ w2.heap.size := HB2.out.size
   obtain ⟨ga,hgae⟩ : ∃ ga,w1.heap.size = ga := ⟨_,rfl⟩
   obtain ⟨gr,hgre⟩ : ∃ gr,w2.heap.size = gr := ⟨_,rfl⟩
   rw [hgae,hgre] at HZ0 ⊢
   rw [hgae] at hga;rw [hgre] at hgr
   clear hr3 hb3 HO2 HB2 HB1 hgae hgre hga2 hok
   cases bm with
   | true =>
     go_wp2_with fail
     go_loopg [13] 0 (fun gh v13 wr => gh = 0 ∧ v13 = .int .i64 0 ∧ Below w.heap.size w wr)
     case atStart => exact ⟨rfl,rfl,HZ0.out.bel⟩
     case round =>
      obtain ⟨_,rfl,hbr⟩ := hrel
      have HBR := hyd hbr
      clear hbr
      go_wp2_with fail
      all_goals go_ret
      all_goals exact ⟨rfl,HBR.out⟩
   | false =>
     go_wp2_with fail
     go_loopg [13] n (fun gh v13 wr => ∃ (k : Nat) (S : Ac),gh = n - k ∧ k ≤ n ∧ k ≤ 80 ∧ v13 = .int .i64 k ∧ BothZ w wr ga gr S)
     case atStart => exact ⟨0,_,rfl,by omega,by omega,rfl,HZ0.out⟩
     case round =>
      obtain ⟨k,S,hgk,hk,hk80,rfl,hinv⟩ := hrel
      have HGK := hyd hgk;have HV := hyd hinv
      by_cases hlt : k < n
      · by_cases h80 : k < 80
        · have hkl : k < l.length := by have := HN.out;omega
          have hd0 : decide ((k : Int) < 80) = true := by simp;omega
          have i1 : (0 : Int) ≤ (k : Int) := by omega
          have i2 : (k : Int) < (n : Int) := by omega
          obtain ⟨b,off,rfl,hb,hst⟩ := (HR.out.below hinv.bel).at_ hkl
          have hbr := (HR.out.below hinv.bel).brs _ (List.getElem_mem hkl)
          have HSTA := hyd (fun (W : World) (hb : Below w.heap.size w W) => ((HR.out.below hb).at_ hkl))
          have HBRA := hyd (fun (W : World) (hb : Below w.heap.size w W) => (HR.out.below hb).brs _ (List.getElem_mem hkl))
          generalize l[k] = t at *
          obtain ⟨c0,c1,c2,c3,c4,c5,c6,c7,c8,c9,c10,c11,c12,c13,c14⟩ := hst
          have HO := hyd (ours_any ga 0 S t wr hinv.own hinv.good hbr)
          obtain ⟨r,hr⟩ : ∃ r,stepS S t = r := ⟨_,rfl⟩
          have HST := hyd (fun w' e (hd : DoesOf wr ga S (stepS S t) e w') => HV.out.ours hga hd)
          have HTH := hyd (fun W (hh : HalfZ w W ga gr S (stepS S t).1) => theirs_any gr S t W hh.ref HV.out.good (HBRA.out W hh.bel))
          have HTE := hyd (fun W w' e (hh : HalfZ w W ga gr S (stepS S t).1) (hd : RDoesOf W gr S (stepS S t) e w') => hh.theirs HV.out.good hgr hd)
          rw [hr] at HO HST HTH HTE
          obtain ⟨mm,hmm⟩ : ∃ mm,stepMv r = mm := ⟨_,rfl⟩
          rw [hmm] at HST HTE
          obtain ⟨S2,mr,er⟩ := r
          obtain ⟨m0,m1,m2,m3,m4,m5⟩ := mm
          simp only at HST HTH HTE
          have hneq := fun W => neqMvs W m0 m1 m2 m3 m4 m5
          have hner : (er != er) = false := by simp
          clear hinv hgk hbr hr hmm
          go_wp2_with fail
          refine HO.out.mono ?_;intro e w5 hd
          obtain ⟨he,hh⟩ := HST.out w5 e hd
          subst he
          have hx := hh.below (bnewU w5 (mvO6s m0 m1 m2 m3 m4 m5))
          have hmx := blk_new w5 (mvO6s m0 m1 m2 m3 m4 m5) rfl
          have HX := hyd hx
          clear hd hh HST HO c0 c1 c2 c3 c4 c5 c6 c7 c8 c9 c10 c11 c12 c13 c14 hb
          go_upto_region 11 with fail
          obtain ⟨gm,hgm⟩ : ∃ gm,w5.heap.size = gm := ⟨_,rfl⟩
          rw [hgm] at hmx ⊢
          generalize w5.alloc (mvO6s m0 m1 m2 m3 m4 m5) = X at *
          obtain ⟨b',off',e',hb,hst⟩ := HSTA.out X HX.out.bel
          injection e' with e';injection e' with e1 e2 _;subst e1;subst e2
          obtain ⟨c0,c1,c2,c3,c4,c5,c6,c7,c8,c9,c10,c11,c12,c13,c14⟩ := hst
          have HT := hyd (HTH.out X HX.out)
          have HMX := hyd hmx
          clear hx hmx hgm
          go_wp2_with fail
          refine HT.out.mono ?_;intro e w6 hd
          obtain ⟨he,hz⟩ := HTE.out X w6 e HX.out hd
          subst he
          have hm6 := rmove_keeps hd HMX.out (by have h1 := HX.out.ref;obtain ⟨_,_,_,_,hc⟩ := h1.cell;exact ne_of_type' HMX.out hc (by decide))
          have hy := hz.below (bnewU w6 (mvO6s m0 m1 m2 m3 m4 m5))
          have hmy := blk_new w6 (mvO6s m0 m1 m2 m3 m4 m5) rfl
          have hmy0 := blk_below hm6 (bnewU w6 (mvO6s m0 m1 m2 m3 m4 m5)) (blk_lt hm6)
          have HY := hyd hy
          clear hd hz hm6 HT HTE HTH HSTA HBRA HX HMX c0 c1 c2 c3 c4 c5 c6 c7 c8 c9 c10 c11 c12 c13 c14 hb
          go_upto_region 12 with fail
          obtain ⟨gm2,hgm2⟩ : ∃ gm2,w6.heap.size = gm2 := ⟨_,rfl⟩
          rw [hgm2] at hmy ⊢
          generalize w6.alloc (mvO6s m0 m1 m2 m3 m4 m5) = Y at *
          have HMY := hyd hmy;have HMY0 := hyd hmy0
          have HAL := hyd (alike_any ga gr S2 Y HY.out.own HY.out.ref HY.out.good)
          clear hy hmy hmy0 hgm2
          go_wp2_with fail
          refine HAL.out.mono ?_;rintro e w7 ⟨rfl,hb7⟩
          have HZ7 := hyd (HY.out.below hb7)
          have hq0 := blk_below HMY0.out hb7 (blk_lt HMY0.out)
          have hq1 := blk_below HMY.out hb7 (blk_lt HMY.out)
          obtain ⟨x0,x1,x2,x3,x4,x5,x6⟩ := cells6U hq0
          obtain ⟨y0,y1,y2,y3,y4,y5,y6⟩ := cells6U hq1
          have hxl := blk_lt hq0;have hyl := blk_lt hq1
          clear hb7 hq0 hq1 HAL HMY HMY0 HY
          go_wp2_with fail
          go_roundg (n - (k + 1))
          case measure => have := HGK.out;omega
          case rel => exact ⟨k + 1,S2,rfl,by omega,by omega,by go_num,HZ7.out⟩
        · have hd0 : decide ((k : Int) < 80) = false := by simp;omega
          clear hinv hgk
          go_wp2_with fail
          all_goals go_ret
          all_goals exact ⟨rfl,HV.out.bel⟩
      · clear hinv hgk
        go_wp2_with fail
        all_goals go_ret
        all_goals exact ⟨rfl,HV.out.bel⟩
 · go_wp2_with fail
   refine (new_no day bp w1 hok).mono ?_;rintro e w2 ⟨rfl,hb2⟩
   have HB2 := hyd (HB1.out.trans (hb2.mono HB1.out.size))
   clear hb2
   go_wp2_with fail
   refine (rnew_no day bp w2 hok).mono ?_;rintro e w3 ⟨rfl,hb3⟩
   have HB3 := hyd (HB2.out.trans (hb3.mono HB2.out.size))
   clear hb3 HB2 HB1 hok
   go_wp2_with fail
   go_loopg [13] 0 (fun gh v13 wr => gh = 0 ∧ v13 = .int .i64 0 ∧ Below w.heap.size w wr)
   case atStart => exact ⟨rfl,rfl,HB3.out⟩
   case round =>
    obtain ⟨_,rfl,hbr⟩ := hrel
    have HBR := hyd hbr
    clear hbr
    go_wp2_with fail
    all_goals go_ret
    all_goals exact ⟨rfl,HBR.out⟩
end Go.Proofs.YtbjjgnaojoaoiaaGreat
