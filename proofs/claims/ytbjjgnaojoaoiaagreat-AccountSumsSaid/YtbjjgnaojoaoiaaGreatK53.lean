/- AccountSums: the walk. -/
import Derived.Test.YtbjjgnaojoaoiaaGreatK51
import Derived.Test.YtbjjgnaojoaoiaaGreatK52
import Derived.Deep.RegionHeld3
import Derived.Deep.QuietTactic
import Derived.BigQuiet
namespace Go.Proofs.YtbjjgnaojoaoiaaGreat
open Go.RowKit Go
set_option linter.unusedVariables false
set_option linter.unusedSimpArgs false

theorem size_i64 (w : World) : (sizeOf 2).run Tryz.prog w = .ok 1 w := by kernel_rfl
theorem size_u64 (w : World) : (sizeOf 44).run Tryz.prog w = .ok 1 w := by kernel_rfl
theorem eqA3 (d : Nat) (a0 a1 a2 : Int) (w : World) : (Op.equalIn (d + 2) 31 (.agg #[.int .i64 a0, .int .i64 a1, .int .i64 a2]) (.agg #[.int .i64 a0, .int .i64 a1, .int .i64 a2])).run Tryz.prog w = .ok true w := by
  have he := Tryz.underlying2
  have ht := Tryz.underlying31
  rw [Op.equalIn]
  simp only [Sem.run_bind, run_underlying ht, Result.andThen_ok, size_i64, Std.Legacy.Range.forIn_eq_forIn_range', Std.Legacy.Range.size, Nat.sub_zero, Nat.add_sub_cancel, Nat.div_one]
  simp [List.range'_succ, part, isAgg, run_underlying he, run_equalIn_int w d 2 .i64 .i64 _ _ he]
theorem neqMv (w : World) (a0 a1 a2 a3 a4 a5 : Int) : (binOp .neq 33 (.agg #[.int .i64 a0, .int .i64 a1, .int .i64 a2, .int .i64 a3, .int .i64 a4, .int .i64 a5]) (.agg #[.int .i64 a0, .int .i64 a1, .int .i64 a2, .int .i64 a3, .int .i64 a4, .int .i64 a5])).run Tryz.prog w = .ok (.bool false) w := by
  have he := Tryz.underlying2
  have ht := Tryz.underlying31
  have hm := Tryz.underlying33
  have hS : Tryz.prog.underlying 33 = some (.struct (Tryz.prog.fieldsOf 33)) := by kernel_rfl
  have hp : Tryz.prog.stoodInHeld 33 = false := by kernel_rfl
  have h3 := eqA3 9997 a0 a1 a2
  have hsz : ∀ w, (sizeOf 31).run Tryz.prog w = .ok 3 w := fun w => by kernel_rfl
  rw [run_neq_struct, show (10000 : Nat) = 9999 + 1 from rfl, run_equalIn_agg w 9999 _ _ _ hS hp]
  simp only [Program.fieldsOf, hm]
  simp [Op.eqFields, part, isAgg, run_underlying he, run_underlying ht, hsz, h3, run_equalIn_int _ _ 2 .i64 .i64 _ _ he]
theorem eqA4 (d : Nat) (a0 a1 a2 a3 : Int) (w : World) : (Op.equalIn (d + 2) 45 (.agg #[.int .u64 a0, .int .u64 a1, .int .u64 a2, .int .u64 a3]) (.agg #[.int .u64 a0, .int .u64 a1, .int .u64 a2, .int .u64 a3])).run Tryz.prog w = .ok true w := by
  have he := Tryz.underlying44
  have ht := Tryz.underlying45
  rw [Op.equalIn]
  simp only [Sem.run_bind, run_underlying ht, Result.andThen_ok, size_u64, Std.Legacy.Range.forIn_eq_forIn_range', Std.Legacy.Range.size, Nat.sub_zero, Nat.add_sub_cancel, Nat.div_one]
  simp [List.range'_succ, part, isAgg, run_underlying he, run_equalIn_int w d 44 .u64 .u64 _ _ he]
theorem neqA4 (a0 a1 a2 a3 : Int) (w : World) : (binOp .neq 45 (.agg #[.int .u64 a0, .int .u64 a1, .int .u64 a2, .int .u64 a3]) (.agg #[.int .u64 a0, .int .u64 a1, .int .u64 a2, .int .u64 a3])).run Tryz.prog w = .ok (.bool false) w := by
  rw [run_neq_struct, eqA4]; rfl
def chZ (m : Mv) : Nat → Int
  | 0 => m.c0
  | 1 => m.c1
  | _ => m.c2
def csZ (m : Mv) : Nat → Int
  | 0 => 0
  | k + 1 => csZ m k + chZ m k
theorem csZ3 (m : Mv) : csZ m 3 = m.c0 + m.c1 + m.c2 := by simp [csZ, chZ]
theorem chZ_bd {m : Mv} (h : MvB m) (k : Nat) : -4611686018427387904 ≤ chZ m k ∧ chZ m k ≤ 4611686018427387904 := by
  match k with
  | 0 => exact h.c0
  | 1 => exact h.c1
  | _ + 2 => exact h.c2
theorem csZ_bd {m : Mv} (h : MvB m) : ∀ k : Nat, -(k : Int) * 4611686018427387904 ≤ csZ m k ∧ csZ m k ≤ (k : Int) * 4611686018427387904
  | 0 => by simp [csZ]
  | k + 1 => by
    have := csZ_bd h k; have := chZ_bd h k
    simp only [csZ]; omega
theorem mv_chg {w : World} {gm : Nat} {m : Mv} (h : w.heap[gm]? = some (mvO m)) {k : Nat} (hk : k < 3) : w.cell? ⟨gm, k, none⟩ = some (.int .i64 (chZ m k)) := by
  rw [blk_cell h]
  rcases (show k = 0 ∨ k = 1 ∨ k = 2 by omega) with rfl | rfl | rfl <;> rfl
theorem opens_bdZ {S : Ac} (h : Good S) : 0 ≤ opens (itemsOf S.ps) ∧ opens (itemsOf S.ps) ≤ 922337203685477580800 := by
  obtain ⟨hl200, hok, _⟩ := placesE_ok (openS_places h.places)
  have h1 := opens_nonneg hok
  have h2 := opens_bound hok
  rw [← openS_opens h.places]
  omega
theorem puts5Z (w : World) (g : Nat) (u0 u1 u2 u3 u4 : Value) : Puts w g [(0, u0), (1, u1), (2, u2), (3, u3), (4, u4)] (put5 w g u0 u1 u2 u3 u4) :=
  (((((Puts.start (Below.refl _ _)).set 0 _).set 1 _).set 2 _).set 3 _).set 4 _
theorem AccZ.put5 {w wr : World} {g gt : Nat} {S : Ac} {cs : Array Value} {fr : Nat × Nat} (h : AccZ w wr g S) (hg : wr.heap[gt]? = some (.cells cs 47 fr)) (hw : w.heap.size ≤ gt) (u0 u1 u2 u3 u4 : Value) : AccZ w (put5 wr gt u0 u1 u2 u3 u4) g S := by
  refine ⟨?_, h.good, below_put5 h.bel hw _ _ _ _ _⟩
  obtain ⟨vp, vq, qs, ho⟩ := h.own
  have e := puts5Z wr gt u0 u1 u2 u3 u4
  generalize Go.Proofs.YtbjjgnaojoaoiaaGreat.put5 wr gt u0 u1 u2 u3 u4 = W at *
  exact ⟨vp, vq, qs, ho.far e hg (by decide) (by decide) (by decide) (by decide)⟩
theorem ttot_enter (u : Value) (w : World) : (callFunc 22 #[u]).run Tryz.prog w = .ok (.enter 22 #[u]) w := by kernel_rfl
/-- What a step did, as the law asks it. -/
structure DidZ (w w1 wr : World) (g : Nat) (S : Ac) (t : Stp) (m : Mv) (er : Int) (S' : Ac) : Prop where
  err : er = 0 ∨ m = Mv.zero
  opn : opens (itemsOf S'.ps) + m.paid = opens (itemsOf S.ps) + m.c0 + m.c1 + m.c2
  cr : S'.cr = S.cr + m.cr
  cash : t.act ≠ 0 → t.act ≠ 1 → m.cash = m.paid + m.cr
  bd : MvB m
  acc : AccZ w wr g S'
  keep : ∀ k, k < w1.heap.size → k ≠ g → wr.heap[k]? = w1.heap[k]?
theorem did_step {w w1 wr : World} {g : Nat} {S : Ac} {t : Stp} {e : Ending} (h : AccZ w w1 g S) (hg : w.heap.size ≤ g) (hd : DoesOf w1 g S (stepS S t) e wr) : ∃ m er S', e = .returned (mvR m er) ∧ DidZ w w1 wr g S t m er S' := by
  have hz := h.step hg hd (h.good.step t) step_same
  have hk : ∀ k, k < w1.heap.size → k ≠ g → wr.heap[k]? = w1.heap[k]? := fun k hk hn => hd.1.block k hk (fun e => hn (Option.some.inj e))
  by_cases h0 : (stepS S t).2.2 = 0
  · obtain ⟨t1, t2⟩ := tells_step h.good t h0
    exact ⟨_, _, _, hd.good h0, .inl rfl, t1.opn, t1.cr, t2, bd_step h.good t h0, hz, hk⟩
  · rw [step_same h0] at hz
    exact ⟨_, _, _, hd.bad h0, .inr rfl, by simp [Mv.zero], by simp [Mv.zero], fun _ _ => by simp [Mv.zero], MvB.zero, hz, hk⟩
theorem fin_new {wc w9 : World} (h : Below wc.heap.size wc w9) (n : Bool) (m : Int) : ∃ (gl : Nat) (n6 : Bool), Value.pointer (some ⟨w9.heap.size, 0, none⟩) = .pointer (some ⟨gl, 0, none⟩) ∧ (w9.alloc (.cells #[.bool n, .int .u64 (dg 0 m), .int .u64 (dg 1 m), .int .u64 (dg 2 m), .int .u64 (dg 3 m)] 47)).heap[gl]? = some (wdO n6 m) ∧ Below wc.heap.size wc (w9.alloc (.cells #[.bool n, .int .u64 (dg 0 m), .int .u64 (dg 1 m), .int .u64 (dg 2 m), .int .u64 (dg 3 m)] 47)) :=
  ⟨_, n, rfl, blk_new _ _ rfl, h.trans ((bnewU _ _).mono h.size)⟩
theorem fin_put {wc w9 : World} {gl : Nat} (h : Below wc.heap.size wc w9) (h9 : w9.heap[gl]? = some (.cells #[.bool false, .int .u64 0, .int .u64 0, .int .u64 0, .int .u64 0] 47 (0, 0))) (hg : wc.heap.size ≤ gl) (n : Bool) (m : Int) : ∃ (gk : Nat) (n6 : Bool), Value.pointer (some ⟨gl, 0, none⟩) = .pointer (some ⟨gk, 0, none⟩) ∧ (((((w9.setCell ⟨gl, 0, none⟩ (.bool n)).setCell ⟨gl, 1, none⟩ (.int .u64 (dg 0 m))).setCell ⟨gl, 2, none⟩ (.int .u64 (dg 1 m))).setCell ⟨gl, 3, none⟩ (.int .u64 (dg 2 m))).setCell ⟨gl, 4, none⟩ (.int .u64 (dg 3 m))).heap[gk]? = some (wdO n6 m) ∧ Below wc.heap.size wc (((((w9.setCell ⟨gl, 0, none⟩ (.bool n)).setCell ⟨gl, 1, none⟩ (.int .u64 (dg 0 m))).setCell ⟨gl, 2, none⟩ (.int .u64 (dg 1 m))).setCell ⟨gl, 3, none⟩ (.int .u64 (dg 2 m))).setCell ⟨gl, 4, none⟩ (.int .u64 (dg 3 m))) :=
  ⟨gl, n, rfl, set5_blkZ h9 _ _ _ _ _, below_put5 h hg _ _ _ _ _⟩
set_option maxHeartbeats 6400000 in
set_option maxRecDepth 100000 in
theorem accountSums_walk (day bp : Int) (A : Option Addr) (n c : Nat) (l : List Stp) (w : World) (h : RdS w A n l) (hm : n ≤ maxLen) :
    Calls Tryz.prog 5 #[.int .i64 day, .int .i64 bp, .slice A n c] w fun e w' => e = .returned (.bool true) ∧ Below w.heap.size w w' := by
  have HR := Lib.hid h; have HM := Lib.hid hm
  unfold maxLen at hm
  have HN := Lib.hid h.len
  clear h
  go_enter Tryz.func5, Tryz.ntmps5
  go_wp2_with fail
  refine (wake_any w).mono ?_; rintro e w1 ⟨rfl, hb1⟩
  have HB1 := Lib.hid hb1
  have HMU := Lib.hid (much_any A n c l w1 (HR.out.below hb1) HM.out)
  clear hb1
  go_wp2_with fail
  refine HMU.out.mono ?_; rintro e w1' ⟨⟨bm, rfl⟩, rfl⟩
  clear HMU
  by_cases hnw : (0 ≤ day ∧ day ≤ 3652058) ∧ 0 ≤ bp ∧ bp ≤ 100000
  · have HNW := Lib.hid (new_yes day bp w1 hnw.1 hnw.2)
    have HGD : Hid (Good (Ac.new day bp)) := Lib.hid (Good.new hnw.1 hnw.2)
    clear hnw
    go_wp2_with fail
    refine HNW.out.mono ?_; rintro e w2 ⟨rfl, ho2, hb2⟩
    have hg2 := ho2.lt
    have hgw : w.heap.size ≤ w1.heap.size := HB1.out.size
    obtain ⟨g, hg⟩ : ∃ g, w1.heap.size = g := ⟨_, rfl⟩
    rw [hg] at ho2 hg2 hgw ⊢
    have HA0 : Hid (AccZ w w2 g (Ac.new day bp)) := Lib.hid ⟨ho2.mono (Nat.zero_le _), HGD.out, HB1.out.trans (hb2.mono HB1.out.size)⟩
    clear ho2 hb2 hg HB1 HNW HGD
    by_cases hbm : bm = true
    · subst hbm
      go_wp2_with fail
      all_goals go_ret
      all_goals exact ⟨rfl, HA0.out.bel⟩
    · have hb' : bm = false := by simpa using hbm
      subst hb'
      clear hbm
      go_wp2_with fail
      go_loopg [11] n (fun gh v11 wr => ∃ (k : Nat) (S : Ac), gh = n - k ∧ k ≤ n ∧ k ≤ 80 ∧ v11 = .int .i64 k ∧ AccZ w wr g S)
      case atStart => exact ⟨0, _, rfl, by omega, by omega, rfl, HA0.out⟩
      case round =>
        obtain ⟨k, S, hgk, hk, hk80, rfl, hinv⟩ := hrel
        have HG := Lib.hid hgk; have HV := Lib.hid hinv
        by_cases hlt : k < n
        · by_cases h80 : k < 80
          · have hkl : k < l.length := by have := HN.out; omega
            have hd0 : decide ((k : Int) < 80) = true := by simp; omega
            have i1 : (0 : Int) ≤ (k : Int) := by omega
            have i2 : (k : Int) < (n : Int) := by omega
            have HT := Lib.hid (utotal_any g 0 S wr hinv.own hinv.good)
            obtain ⟨z, hz⟩ : ∃ z, opens (itemsOf S.ps) = z := ⟨_, rfl⟩
            have hzb := opens_bdZ hinv.good
            rw [hz] at HT hzb
            have HZ := Lib.hid hz; have HZB := Lib.hid hzb
            clear hinv hgk hz hzb
            go_wp2_with fail
            refine HT.out.mono ?_; rintro e w5 ⟨⟨n1, rfl, hz1⟩, hb5⟩
            have hbn := bnewU w5 (.cells #[.bool n1, .int .u64 (dg 0 (z.natAbs : Int)), .int .u64 (dg 1 (z.natAbs : Int)), .int .u64 (dg 2 (z.natAbs : Int)), .int .u64 (dg 3 (z.natAbs : Int))] 47)
            have hax := (HV.out.below hb5).below hbn
            have hgx := blk_new w5 (.cells #[.bool n1, .int .u64 (dg 0 (z.natAbs : Int)), .int .u64 (dg 1 (z.natAbs : Int)), .int .u64 (dg 2 (z.natAbs : Int)), .int .u64 (dg 3 (z.natAbs : Int))] 47) rfl
            have hgt5 : g < w5.heap.size := (HV.out.below hb5).own.lt
            have hwt : w.heap.size ≤ w5.heap.size := (HV.out.below hb5).bel.size
            have HZ1 := Lib.hid hz1
            clear hbn hb5 HT hz1
            go_upto_region 10 with fail
            obtain ⟨gt, hgt⟩ : ∃ gt, w5.heap.size = gt := ⟨_, rfl⟩
            rw [hgt] at hgx hgt5 hwt ⊢
            generalize w5.alloc (.cells #[.bool n1, .int .u64 (dg 0 (z.natAbs : Int)), .int .u64 (dg 1 (z.natAbs : Int)), .int .u64 (dg 2 (z.natAbs : Int)), .int .u64 (dg 3 (z.natAbs : Int))] 47) = X at *
            obtain ⟨cr, hcr⟩ : ∃ cr, S.cr = cr := ⟨_, rfl⟩
            have HCD := Lib.hid (credit_eq g 0 S X hax.own)
            rw [hcr] at HCD
            have HCR := Lib.hid hcr
            obtain ⟨b, off, rfl, hb, hst⟩ := (HR.out.below hax.bel).at_ hkl
            have hbr := (HR.out.below hax.bel).brs _ (List.getElem_mem hkl)
            obtain ⟨t, ht⟩ : ∃ t, l[k] = t := ⟨_, rfl⟩
            rw [ht] at hst hbr
            have HTK := Lib.hid ht
            obtain ⟨c0, c1, c2, c3, c4, c5, c6, c7, c8, c9, c10, c11, c12, c13, c14⟩ := hst
            have HO := Lib.hid (ours_any g 0 S t X hax.own hax.good hbr)
            have HST := Lib.hid (fun w' e (hd : DoesOf X g S (stepS S t) e w') => did_step hax hgw hd)
            have HGX := Lib.hid hgx
            clear hax hbr hgx hcr hgt ht
            go_wp2_with fail
            refine HCD.out.mono ?_; rintro e wq ⟨rfl, rfl⟩
            clear HCD
            go_wp2_with fail
            refine HO.out.mono ?_; intro e w6 hd
            obtain ⟨m, er, S', rfl, hdid⟩ := HST.out w6 e hd
            have hg6 := (hdid.keep gt (blk_lt HGX.out) (by omega)).trans HGX.out
            have hbn := bnewU w6 (.cells #[.int .i64 m.c0, .int .i64 m.c1, .int .i64 m.c2, .int .i64 m.paid, .int .i64 m.cr, .int .i64 m.cash] 33)
            have hay := hdid.acc.below hbn
            have hgy := blk_alloc hg6 (.cells #[.int .i64 m.c0, .int .i64 m.c1, .int .i64 m.c2, .int .i64 m.paid, .int .i64 m.cr, .int .i64 m.cash] 33)
            have hmy := blk_new w6 (.cells #[.int .i64 m.c0, .int .i64 m.c1, .int .i64 m.c2, .int .i64 m.paid, .int .i64 m.cr, .int .i64 m.cash] 33) rfl
            have hgm6 : gt < w6.heap.size := blk_lt hg6
            have HDID := Lib.hid hdid
            clear hd HO HST hbn hg6 hdid HGX c0 c1 c2 c3 c4 c5 c6 c7 c8 c9 c10 c11 c12 c13 c14
            go_upto_region 12 with fail
            obtain ⟨gm, hgm⟩ : ∃ gm, w6.heap.size = gm := ⟨_, rfl⟩
            rw [hgm] at hmy hgm6 ⊢
            generalize w6.alloc (.cells #[.int .i64 m.c0, .int .i64 m.c1, .int .i64 m.c2, .int .i64 m.paid, .int .i64 m.cr, .int .i64 m.cash] 33) = Y at *
            have HAY := Lib.hid hay; have HGY := Lib.hid hgy; have HMY := Lib.hid hmy
            clear hay hgy hmy hgm
            go_cut [70] from 64 to 69 (fun v70 wy => v70 = .bool false ∧ wy = Y)
            case first =>
              by_cases he0 : er = 0
              · subst he0
                go_wp2_with fail
                all_goals go_meet
                all_goals exact ⟨rfl, rfl⟩
              · have hmz : m = Mv.zero := by rcases HDID.out.err with h | h
                                             · exact absurd h he0
                                             · exact h
                have e0 : (er != 0) = true := by simp [he0]
                obtain ⟨x0, x1, x2, x3, x4, x5, x6⟩ := cells6U HMY.out
                have hxl := blk_lt HMY.out
                rw [hmz] at x0 x1 x2 x3 x4 x5
                simp only [Mv.zero] at x0 x1 x2 x3 x4 x5
                have hq := fun w => neqMv w 0 0 0 0 0 0
                have hq3 : ∀ w, (Op.equalIn 9999 31 (.agg #[.int .i64 0, .int .i64 0, .int .i64 0]) (.agg #[.int .i64 0, .int .i64 0, .int .i64 0])).run Tryz.prog w = .ok true w := eqA3 9997 0 0 0
                clear he0 hmz
                go_wp2_with fail
                all_goals go_meet
                all_goals exact ⟨rfl, rfl⟩
            case rest =>
              obtain ⟨rfl, rfl⟩ := hcut
              have hbd := HDID.out.bd
              go_upto_block 2 with fail
              go_cut [16] from 71 to 81 (fun v16 wv => ∃ n4 : Bool, wz n4 ((z + csZ m 3).natAbs : Int) = z + csZ m 3 ∧ wv.heap[gt]? = some (wdO n4 ((z + csZ m 3).natAbs : Int)) ∧ wv.heap[gm]? = some (mvO m) ∧ AccZ w wv g S')
              case first =>
                go_wp2_with fail
                go_loopg [16] 3 (fun gh v16 wv => ∃ (j : Nat) (n4 : Bool), gh = 3 - j ∧ j ≤ 3 ∧ v16 = .int .i64 j ∧ wz n4 ((z + csZ m j).natAbs : Int) = z + csZ m j ∧ wv.heap[gt]? = some (wdO n4 ((z + csZ m j).natAbs : Int)) ∧ wv.heap[gm]? = some (mvO m) ∧ AccZ w wv g S')
                case atStart => exact ⟨0, n1, rfl, by omega, rfl, by simp only [csZ, Int.add_zero]; exact HZ1.out, by simp only [csZ, Int.add_zero]; exact HGY.out, HMY.out, HAY.out⟩
                case round =>
                  obtain ⟨j, n4, hgj, hj3, rfl, hzj, hgt4, hgm4, hac4⟩ := hrel
                  have HGJ := Lib.hid hgj; have HGT := Lib.hid hgt4; have HGM := Lib.hid hgm4; have HAC := Lib.hid hac4
                  clear hgj hgt4 hgm4 hac4
                  by_cases hj : j < 3
                  · have hcb := csZ_bd hbd j
                    have hgb := chZ_bd hbd j
                    have hnx : z + csZ m (j + 1) = z + csZ m j + chZ m j := by simp only [csZ]; omega
                    obtain ⟨y, hy⟩ : ∃ y, chZ m j = y := ⟨_, rfl⟩
                    obtain ⟨zj, hzj'⟩ : ∃ zj, z + csZ m j = zj := ⟨_, rfl⟩
                    obtain ⟨zn, hzn⟩ : ∃ zn, z + csZ m (j + 1) = zn := ⟨_, rfl⟩
                    have hcell := mv_chg HGM.out hj
                    have hzb := HZB.out
                    have hzjb : (zj.natAbs : Int) ≤ 940000000000000000000 := by omega
                    rw [hy] at hcell hgb hnx
                    rw [hzj'] at hzj hnx HGT
                    rw [hzn] at hnx
                    have HZN := Lib.hid hzn
                    have i3 : (0 : Int) ≤ (j : Int) := by omega
                    have i4 : (j : Int) < 3 := by omega
                    have d3 : decide ((j : Int) < 3) = true := by simp; omega
                    obtain ⟨k0, k1, k2, k3, k4, k5⟩ := cells5U HGT.out
                    have hkl3 := blk_lt HGT.out; have hml := blk_lt HGM.out
                    have HOF := Lib.hid (fun wx => tof_any y wx (by omega))
                    have HAD := Lib.hid (fun (n2 : Bool) (h2 : wz n2 (y.natAbs : Int) = y) wx => tadd_any n4 n2 zj y wx hzj h2 (by unfold big; omega))
                    rw [← hnx] at HAD
                    clear hcb hy hzj' hzn hnx hzb hzj
                    go_wp2_with fail
                    go_region_law (first
                      | (refine step_call1R rfl 16 (.tmp 79) 2 rfl (.int .i64 y) rfl (tof_enter _) ?_
                         refine (HOF.out _).mono ?_; rintro e w7 ⟨⟨n2, rfl, hz2⟩, hw2⟩; refine ⟨_, rfl, ?_⟩
                         have HW2 : Hid (Below wr.heap.size wr w7) := Lib.hid (below_drewA hw2)
                         have HZN2 := Lib.hid hz2
                         obtain ⟨q0, q1, q2, q3, q4, q5⟩ := cells5U (blk_below HGT.out HW2.out hkl3)
                         have ql := blk_lt (blk_below HGT.out HW2.out hkl3)
                         clear hw2 hz2)
                      | (refine step_call2R rfl 23 (.tmp 75) (.tmp 80) 47 47 rfl (wd n4 (zj.natAbs : Int)) (wd n2 (y.natAbs : Int)) rfl rfl (tadd_enter _ _) ?_
                         refine (HAD.out n2 HZN2.out _).mono ?_; rintro e w8 ⟨⟨n3, rfl, hz3⟩, hw3⟩; refine ⟨_, rfl, ?_⟩
                         have HW3 : Hid (Below wr.heap.size wr w8) := Lib.hid (HW2.out.trans (hw3.mono HW2.out.size))
                         have H33 := Lib.hid (blk_below HGT.out HW3.out hkl3)
                         have HM33 := Lib.hid (blk_below HGM.out HW3.out hml)
                         have HA33 := Lib.hid (HAC.out.below HW3.out)
                         have HZ3 := Lib.hid hz3
                         obtain ⟨t0, t1, t2, t3, t4, t5⟩ := cells5U H33.out
                         have tl := blk_lt H33.out
                         clear hw3 hz3))
                    all_goals go_wp2_with fail
                    all_goals go_roundg (3 - (j + 1))
                    all_goals first
                      | (have := HGJ.out; omega)
                      | exact ⟨j + 1, n3, rfl, by omega, by go_num, by rw [HZN.out]; exact HZ3.out, by rw [HZN.out]; exact set5_blkZ H33.out _ _ _ _ _, (put5_far _ _ _ _ _ _ _ (by omega)).trans HM33.out, HA33.out.put5 H33.out hwt _ _ _ _ _⟩
                  · have hj' : j = 3 := by omega
                    subst hj'
                    clear hj
                    go_wp2_with fail
                    all_goals go_meet
                    all_goals exact ⟨n4, hzj, HGT.out, HGM.out, HAC.out⟩
              case rest =>
                obtain ⟨n4, hz4, hgt4, hgm4, hac4⟩ := hcut
                have hcb := csZ_bd hbd 3
                have hzb := HZB.out
                have hzt : opens (itemsOf S'.ps) + m.paid = z + csZ m 3 := by rw [HDID.out.opn, HZ.out, csZ3]; omega
                have hzb2 := opens_bdZ hac4.good
                obtain ⟨zt, hzt'⟩ : ∃ zt, z + csZ m 3 = zt := ⟨_, rfl⟩
                rw [hzt'] at hz4 hgt4 hzt
                have HT2 := Lib.hid (fun wx (hb : Below wc.heap.size wc wx) => utotal_any g 0 S' wx (hac4.own.below hb) hac4.good)
                obtain ⟨z2, hz2⟩ : ∃ z2, opens (itemsOf S'.ps) = z2 := ⟨_, rfl⟩
                rw [hz2] at HT2 hzt hzb2
                have hpb := hbd.paid
                obtain ⟨x0, x1, x2, x3, x4, x5, x6⟩ := cells6U hgm4
                obtain ⟨pd, hpd⟩ : ∃ pd, m.paid = pd := ⟨_, rfl⟩
                rw [hpd] at x3 hpb hzt
                have hml := blk_lt hgm4
                have HOF := Lib.hid (fun wx => tof_any pd wx (by omega))
                have HAD := Lib.hid (fun (n1 n2 : Bool) (h1 : wz n1 (z2.natAbs : Int) = z2) (h2 : wz n2 (pd.natAbs : Int) = pd) wx => tadd_any n1 n2 z2 pd wx h1 h2 (by unfold big; omega))
                rw [hzt] at HAD
                have HGT := Lib.hid hgt4; have HGM := Lib.hid hgm4; have HAC := Lib.hid hac4
                clear hz4 hgt4 hgm4 hac4 hcb hzt hzt' hz2 hpd hzb
                go_upto_region 18 with fail
                go_cut [17] from 82 to 87 (fun v17 wv => ∃ (gl : Nat) (n6 : Bool), v17 = .pointer (some ⟨gl, 0, none⟩) ∧ wv.heap[gl]? = some (wdO n6 (zt.natAbs : Int)) ∧ Below wc.heap.size wc wv)
                case first =>
                  have HN7 : Hid True := Lib.hid trivial; have HN8 : Hid True := Lib.hid trivial; have HN9 : Hid True := Lib.hid trivial
                  go_region_law (first
                    | (refine step_call1R rfl 22 (.tmp 82) 27 rfl (.pointer (some ⟨g, 0, none⟩)) rfl (ttot_enter _) ?_
                       refine (HT2.out _ (by first | exact (Below.refl _ _) | exact (Below.refl _ _).drew | exact (bnewU _ _) | exact (bnewU _ _).drew)).mono ?_; rintro e w7 ⟨⟨n7, rfl, hz7⟩, hw7⟩; refine ⟨_, rfl, ?_⟩
                       have HW7 : Hid (Below wc.heap.size wc w7) := Lib.hid (by first | exact hw7 | exact below_drewA hw7 | exact (bnewU _ _).trans (hw7.mono (bnewU _ _).size) | exact (bnewU _ _).trans ((below_drewA hw7).mono (bnewU _ _).size))
                       have y3 := cells_below HW7.out hml x3
                       have hml7 := Nat.lt_of_lt_of_le hml HW7.out.size
                       first
                         | have HN7 : Hid (w7.heap[wc.heap.size]? = some (.cells #[.bool false, .int .u64 0, .int .u64 0, .int .u64 0, .int .u64 0] 47 (0, 0))) := Lib.hid (by first | exact blk_below (blk_new wc (.cells #[.bool false, .int .u64 0, .int .u64 0, .int .u64 0, .int .u64 0] 47) rfl) hw7 (by simp) | exact blk_below (blk_new wc (.cells #[.bool false, .int .u64 0, .int .u64 0, .int .u64 0, .int .u64 0] 47) rfl) (below_drewA hw7) (by simp) | exact blk_below (blk_new wc.drew (.cells #[.bool false, .int .u64 0, .int .u64 0, .int .u64 0, .int .u64 0] 47) rfl) hw7 (by simp) | exact blk_below (blk_new wc.drew (.cells #[.bool false, .int .u64 0, .int .u64 0, .int .u64 0, .int .u64 0] 47) rfl) (below_drewA hw7) (by simp))
                         | skip
                       have HZ7 := Lib.hid hz7
                       clear hw7 hz7)
                    | (refine step_call1R rfl 16 (.tmp 85) 2 rfl (.int .i64 pd) rfl (tof_enter _) ?_
                       refine (HOF.out _).mono ?_; rintro e w8 ⟨⟨n8, rfl, hz8⟩, hw8⟩; refine ⟨_, rfl, ?_⟩
                       have HW8 : Hid (Below w7.heap.size w7 w8) := Lib.hid (by first | exact hw8 | exact below_drewA hw8 | exact (bnewU _ _).trans (hw8.mono (bnewU _ _).size) | exact (bnewU _ _).trans ((below_drewA hw8).mono (bnewU _ _).size))
                       first
                         | have HN8 : Hid (w8.heap[wc.heap.size]? = some (.cells #[.bool false, .int .u64 0, .int .u64 0, .int .u64 0, .int .u64 0] 47 (0, 0))) := Lib.hid (blk_below HN7.out HW8.out (blk_lt HN7.out))
                         | have HN8 : Hid (w8.heap[w7.heap.size]? = some (.cells #[.bool false, .int .u64 0, .int .u64 0, .int .u64 0, .int .u64 0] 47 (0, 0))) := Lib.hid (by first | exact blk_below (blk_new w7 (.cells #[.bool false, .int .u64 0, .int .u64 0, .int .u64 0, .int .u64 0] 47) rfl) hw8 (by simp) | exact blk_below (blk_new w7 (.cells #[.bool false, .int .u64 0, .int .u64 0, .int .u64 0, .int .u64 0] 47) rfl) (below_drewA hw8) (by simp))
                         | skip
                       have HZ8 := Lib.hid hz8
                       clear hw8 hz8)
                    | (refine step_call2R rfl 23 (.tmp 83) (.tmp 86) 47 47 rfl (wd n7 (z2.natAbs : Int)) (wd n8 (pd.natAbs : Int)) rfl rfl (tadd_enter _ _) ?_
                       refine (HAD.out n7 n8 HZ7.out HZ8.out _).mono ?_; rintro e w9 ⟨⟨n9, rfl, hz9⟩, hw9⟩; refine ⟨_, rfl, ?_⟩
                       have HW9 : Hid (Below w8.heap.size w8 w9) := Lib.hid (by first | exact hw9 | exact below_drewA hw9 | exact (bnewU _ _).trans (hw9.mono (bnewU _ _).size) | exact (bnewU _ _).trans ((below_drewA hw9).mono (bnewU _ _).size))
                       first
                         | (have HN9 := Lib.hid (blk_below HN8.out HW9.out (blk_lt HN8.out)); obtain ⟨r0, r1, r2, r3, r4, r5⟩ := cells5U HN9.out; have rl := blk_lt HN9.out)
                         | (have HN9 : Hid (w9.heap[w8.heap.size]? = some (.cells #[.bool false, .int .u64 0, .int .u64 0, .int .u64 0, .int .u64 0] 47 (0, 0))) := Lib.hid (by first | exact blk_below (blk_new w8 (.cells #[.bool false, .int .u64 0, .int .u64 0, .int .u64 0, .int .u64 0] 47) rfl) hw9 (by simp) | exact blk_below (blk_new w8 (.cells #[.bool false, .int .u64 0, .int .u64 0, .int .u64 0, .int .u64 0] 47) rfl) (below_drewA hw9) (by simp)); obtain ⟨r0, r1, r2, r3, r4, r5⟩ := cells5U HN9.out; have rl := blk_lt HN9.out)
                         | skip
                       clear hw9 hz9))
                  all_goals have hb9 : Below wc.heap.size wc w9 := HW7.out.trans ((HW8.out.trans (HW9.out.mono HW8.out.size)).mono HW7.out.size)
                  all_goals have HB9 := Lib.hid hb9
                  all_goals clear hb9
                  all_goals go_wp2_with fail
                  all_goals go_meet
                  all_goals first
                    | with_reducible exact fin_new HB9.out n9 _
                    | with_reducible exact fin_put HB9.out HN9.out (Nat.le_refl _) n9 _
                    | with_reducible exact fin_put HB9.out HN9.out HW7.out.size n9 _
                    | with_reducible exact fin_put HB9.out HN9.out (Nat.le_trans HW7.out.size HW8.out.size) n9 _
                case rest =>
                  obtain ⟨gl, n6, rfl, hgl, hbl⟩ := hcut
                  have hac5 := HAC.out.below hbl
                  have hgt5' := blk_below HGT.out hbl (blk_lt HGT.out)
                  have hgm5 := blk_below HGM.out hbl (blk_lt HGM.out)
                  clear x0 x1 x2 x3 x4 x5 x6 hml HOF HAD HT2
                  obtain ⟨a0, a1, a2, a3, a4, a5⟩ := cells5U hgl
                  obtain ⟨b0, b1, b2, b3, b4, b5⟩ := cells5U hgt5'
                  obtain ⟨x0, x1, x2, x3, x4, x5, x6⟩ := cells6U hgm5
                  have hll := blk_lt hgl; have htl := blk_lt hgt5'; have hml := blk_lt hgm5
                  have hcr2 : S'.cr = cr + m.cr := by rw [HDID.out.cr, HCR.out]
                  have hcb2 := hac5.good.cr
                  obtain ⟨cr2, hcr2'⟩ : ∃ cr2, S'.cr = cr2 := ⟨_, rfl⟩
                  have HCD2 := Lib.hid (fun n => credit_eq g 0 S' (wc.drewN n) (hac5.own.below (below_drewN (Below.refl _ _) _)))
                  rw [hcr2'] at HCD2 hcb2 hcr2
                  have hcash := HDID.out.cash
                  have hcsb := hbd.cash
                  obtain ⟨mc, hmc⟩ : ∃ mc, m.cr = mc := ⟨_, rfl⟩
                  obtain ⟨mp, hmp⟩ : ∃ mp, m.paid = mp := ⟨_, rfl⟩
                  obtain ⟨mk, hmk⟩ : ∃ mk, m.cash = mk := ⟨_, rfl⟩
                  rw [hmc] at x4 hcr2 hcash
                  rw [hmp] at x3 hcash
                  rw [hmk] at x5 hcash hcsb
                  have hws : IntKind.i64.wrap (cr + mc) = cr2 := by rw [← hcr2]; exact IntWalk.i64_in _ (by omega)
                  have e3 : decide (cr2 < 0) = false := by simp; omega
                  have hq := fun w => neqA4 (dg 0 (zt.natAbs : Int)) (dg 1 (zt.natAbs : Int)) (dg 2 (zt.natAbs : Int)) (dg 3 (zt.natAbs : Int)) w
                  have hrow : ∃ b2 off2, some (⟨b, off, none⟩ : Addr) = some ⟨b2, off2, none⟩ ∧ b2 < wc.heap.size ∧ StpAt wc b2 (off2 + k * 15) l[k] := (HR.out.below hac5.bel).at_ hkl
                  obtain ⟨b2, off2, hA, hb2, hst⟩ := hrow
                  injection hA with hA
                  injection hA with hA1 hA2 _
                  subst hA1 hA2
                  rw [HTK.out] at hst
                  have hst0 := hst.c0
                  have HS0 := Lib.hid (fun n => (show (wc.drewN n).cell? ⟨b, off + k * 15, none⟩ = some (.int .i64 t.act) from hst0))
                  have HX3 := Lib.hid (fun n => (show (wc.drewN n).cell? ⟨gm, 3, none⟩ = some (.int .i64 mp) from x3))
                  have HX4 := Lib.hid (fun n => (show (wc.drewN n).cell? ⟨gm, 4, none⟩ = some (.int .i64 mc) from x4))
                  have HX5 := Lib.hid (fun n => (show (wc.drewN n).cell? ⟨gm, 5, none⟩ = some (.int .i64 mk) from x5))
                  have HAC5 := Lib.hid hac5; have HCASH := Lib.hid hcash
                  clear hcr2 hcr2' hmc hmp hmk hst hst0 hac5 hgl hgt5' hgm5 hbl hcash
                  go_wp2_with fail
                  go_quiet ((go_at_call 12; exact Calls.quiet_of_same (HCD2.out _)))
                  have s0 := HS0.out nq; have y3 := HX3.out nq; have y4 := HX4.out nq; have y5 := HX5.out nq
                  have HACQ := Lib.hid (HAC5.out.below (below_drewN (Below.refl _ _) nq))
                  clear hq hws
                  by_cases ha0 : t.act = 0
                  · have e0 : (t.act != 0) = false := by simp [ha0]
                    clear ha0
                    go_wp2_with fail
                    go_roundg (n - (k + 1))
                    case measure => have := HG.out; omega
                    case rel => exact ⟨k + 1, S', rfl, by omega, by omega, by go_num, HACQ.out⟩
                  · have e0 : (t.act != 0) = true := by simp [ha0]
                    by_cases ha1 : t.act = 1
                    · have e1 : (t.act != 1) = false := by simp [ha1]
                      clear ha0 ha1
                      go_wp2_with fail
                      go_roundg (n - (k + 1))
                      case measure => have := HG.out; omega
                      case rel => exact ⟨k + 1, S', rfl, by omega, by omega, by go_num, HACQ.out⟩
                    · have e1 : (t.act != 1) = true := by simp [ha1]
                      have hck := HCASH.out ha0 ha1
                      have hws2 : IntKind.i64.wrap (mp + mc) = mk := by rw [← hck]; exact IntWalk.i64_in _ (by omega)
                      clear ha0 ha1 hck
                      go_wp2_with fail
                      go_roundg (n - (k + 1))
                      case measure => have := HG.out; omega
                      case rel => exact ⟨k + 1, S', rfl, by omega, by omega, by go_num, HACQ.out⟩
          · have hd0 : decide ((k : Int) < 80) = false := by simp; omega
            clear hinv hgk
            go_wp2_with fail
            all_goals go_ret
            all_goals exact ⟨rfl, HV.out.bel⟩
        · clear hinv hgk
          go_wp2_with fail
          all_goals go_ret
          all_goals exact ⟨rfl, HV.out.bel⟩
  · have HNW := Lib.hid (new_no day bp w1 hnw)
    clear hnw
    go_wp2_with fail
    refine HNW.out.mono ?_; rintro e w2 ⟨rfl, hb2⟩
    have hbe := HB1.out.trans (hb2.mono HB1.out.size)
    have HBE := Lib.hid hbe
    clear hb2 hbe HNW
    by_cases hbm : bm = true
    · subst hbm
      go_wp2_with fail
      all_goals go_ret
      all_goals exact ⟨rfl, HBE.out⟩
    · have hb' : bm = false := by simpa using hbm
      subst hb'
      clear hbm
      go_wp2_with fail
      all_goals go_ret
      all_goals exact ⟨rfl, HBE.out⟩
end Go.Proofs.YtbjjgnaojoaoiaaGreat
