/- AccountSplit: the walk. -/
import Derived.Test.YtbjjgnaojoaoiaaGreatK52
import Derived.Test.YtbjjgnaojoaoiaaGreatK50
import Derived.Test.YtbjjgnaojoaoiaaGreatK48
import Derived.Test.YtbjjgnaojoaoiaaGreatK36
import Derived.Deep.RegionLaw
namespace Go.Proofs.YtbjjgnaojoaoiaaGreat
open Go.RowKit Go
set_option linter.unusedVariables false
set_option linter.unusedSimpArgs false

/-- A call that stands behind a guard that is met. -/
theorem step_call1S {P : Program} {w : World} {ops : Array Oper} {o : Oper} {a : Act} {K : Act → World → Prop} {Q : Exit → Act → World → Prop} {E : Prop} (f : FuncId) (x : Operand) (s : TypeId)
    (ho : o.op = .call { callee := .value (.func f), args := #[x], argTypes := #[s] }) (u : Value) (hu : a.eval x = u)
    (hcf : ∀ w, (callFunc f #[u]).run P w = .ok (.enter f #[u]) w) (hw : Region.wanted o (yielded ops a.tmps) = true)
    (hc : Calls P f #[u] w fun e w' => ∃ u, e = .returned u ∧ K (a.put o.dst u) w') :
    if Region.wanted o (yielded ops a.tmps) = true then Oper.wp P o a w K Q else E := by
  rw [if_pos hw]
  unfold Oper.wp
  have hrun : (execOp a.eval o).run P w = .ok (.enter f #[u]) w := by
    have hf : a.eval (.func f) = .func (.func f) #[] #[] := rfl
    subst hu
    simp [execOp, ho, resolve, invoke, hf, Deferred.ofValue, hcf]
  rw [hrun, Oper.upon_enter]
  exact hc.mono (by rintro e w' ⟨u, rfl, h⟩; exact h)
@[reducible] def mvO7 (m0 m1 m2 m3 m4 m5 : Int) : Obj := .cells #[.int .i64 m0, .int .i64 m1, .int .i64 m2, .int .i64 m3, .int .i64 m4, .int .i64 m5] 33
/-- Another account lies as it was. -/
theorem DoesOf.other {w w' : World} {g g2 : Nat} {S S2 : Ac} {r : Ac × Mv × Int} {e : Ending} (hd : DoesOf w g S r e w') (ho : OwnAt w 0 g S) (h2 : OwnAt w 0 g2 S2) (hne : g2 ≠ g) : OwnAt w' 0 g2 S2 := by
  obtain ⟨vp, vq, qs, h⟩ := h2
  obtain ⟨vp', vq', hcell⟩ := ho.cell
  have far : ∀ (k : Nat) (cs : Array Value) (t : TypeId), w.heap[k]? = some (.cells cs t (0, 0)) → t ≠ 83 → w'.heap[k]? = w.heap[k]? := fun k cs t hk ht =>
    hd.1.block k (blk_lt hk) (fun e => by
      have e' : k = g := Option.some.inj e
      subst e'
      exact ne_of_type' hcell hk (Ne.symm ht) rfl)
  exact ⟨vp, vq, qs, (hd.1.block g2 (blk_lt h.hg) (fun e => hne (Option.some.inj e))).trans h.hg, h.hB, own_keep h.hp fun b cs hb => far b cs _ hb (by decide), own_keep h.hq fun b cs hb => far b cs _ hb (by decide), h.hm, fun q hq => (h.parts q hq).keep fun b cs hb => far b cs _ hb (by decide)⟩
theorem DoesOf.cellD {w w' : World} {g : Nat} {S : Ac} {r : Ac × Mv × Int} {e : Ending} {p : Addr} (hd : DoesOf w g S r e w') (hp : p.block < w.heap.size ∧ p.block ≠ g) : w'.cell? p = w.cell? p := by
  have h := hd.1.block p.block hp.1 (fun e => hp.2 (Option.some.inj e))
  unfold World.cell?
  rw [h]
theorem Rd.int_at {w : World} {B n : Nat} {A : Option Addr} {l : List Int} (h : Rd w B 1 A n (ints l)) {k : Nat} (hk : k < l.length) : ∃ b off, A = some ⟨b, off, none⟩ ∧ b < B ∧ w.cell? ⟨b, off + k, none⟩ = some (.int .i64 l[k]) := by
  have hn : l.length = n * 1 := by have := h.1; simpa [ints] using this
  obtain ⟨b, off, e, hb, hc⟩ := h.2 (by omega)
  exact ⟨b, off, e, hb, (hc k (by omega)).trans (by simp [ints, hk])⟩
set_option maxHeartbeats 6400000 in
set_option maxRecDepth 100000 in
theorem accountSplit_walk (A : Option Addr) (n c : Nat) (l : List Stp) (Ad : Option Addr) (ds : List Int) (nd cd : Nat) (w : World) (h : RdS w A n l) (hm : n ≤ maxLen) (hnd : ds.length = nd) (hd : Rd w w.heap.size 1 Ad nd (ints ds)) (hmd : nd ≤ maxLen) :
    Calls Tryz.prog 9 #[.slice A n c, .slice Ad nd cd] w fun e w' => e = .returned (.bool true) ∧ Below w.heap.size w w' := by
  have HR := Lib.hid h; have HM := Lib.hid hm; have HD := Lib.hid hd; have HND := Lib.hid hnd
  unfold maxLen at hm hmd
  have HN := Lib.hid h.len
  clear h hd hnd
  go_enter Tryz.func9, Tryz.ntmps9
  go_wp2_with fail
  refine (wake_any w).mono ?_; rintro e w1 ⟨rfl, hb1⟩
  have HB1 := Lib.hid hb1
  have HMU := Lib.hid (much_any A n c l w1 (HR.out.below hb1) HM.out)
  clear hb1
  go_wp2_with fail
  refine HMU.out.mono ?_; rintro e w1' ⟨⟨bm, rfl⟩, rfl⟩
  clear HMU
  go_wp2_with fail
  refine (new_yes 738000 700 w1 (by decide) (by decide)).mono ?_; rintro e w2 ⟨rfl, ho2, hb2⟩
  have hg2 := ho2.lt
  have hgw : w.heap.size ≤ w1.heap.size := HB1.out.size
  obtain ⟨g, hg⟩ : ∃ g, w1.heap.size = g := ⟨_, rfl⟩
  rw [hg] at ho2 hg2 hgw ⊢
  have HA0 : Hid (AccZ w w2 g (Ac.new 738000 700)) := Lib.hid ⟨ho2.mono (Nat.zero_le _), Good.new (by decide) (by decide), HB1.out.trans (hb2.mono HB1.out.size)⟩
  clear ho2 hb2 hg HB1
  by_cases hok : bm = false
  · subst hok
    go_upto_block 0 with fail
    go_cut [9] from 39 to 54 (fun v9 wc => ∃ S : Ac, AccZ w wc g S ∧ S.bp = 700 ∧ prinP S.ps ≤ 288230376151711744)
    case first =>
      -- <heavy>
      go_wp2_with fail
      go_loopg [9] n (fun gh v9 wr => ∃ (k : Nat) (S : Ac), gh = n - k ∧ k ≤ n ∧ k ≤ 60 ∧ v9 = .int .i64 k ∧ AccZ w wr g S ∧ S.bp = 700 ∧ prinP S.ps ≤ 2251799813685248 * k)
      case atStart => exact ⟨0, _, rfl, by omega, by omega, rfl, HA0.out, rfl, by simp [prinP, Ac.new]⟩
      case round =>
        obtain ⟨k, S, hgk, hk, hk60, rfl, hinv, hbp, hpr⟩ := hrel
        have HG := Lib.hid hgk; have HV := Lib.hid hinv; have HBP := Lib.hid hbp; have HPR := Lib.hid hpr
        by_cases hlt : k < n
        · by_cases h60 : k < 60
          · have hkl : k < l.length := by have := HN.out; omega
            obtain ⟨b, off, rfl, hb, hst⟩ := (HR.out.below hinv.bel).at_ hkl
            have hbr := (HR.out.below hinv.bel).brs _ (List.getElem_mem hkl)
            generalize l[k] = t at *
            obtain ⟨c0, c1, c2, c3, c4, c5, c6, c7, c8, c9, c10, c11, c12, c13, c14⟩ := hst
            have HO := Lib.hid (ours_any g 0 S t wr hinv.own hinv.good hbr)
            have hd0 : decide ((k : Int) < 60) = true := by simp; omega
            have i1 : (0 : Int) ≤ (k : Int) := by omega
            have i2 : (k : Int) < (n : Int) := by omega
            have HST := Lib.hid (fun w' e (hd : DoesOf wr g S (stepS S t) e w') => hinv.step hgw hd (hinv.good.step t) step_same)
            have HPS := Lib.hid (prin_step hinv.good t)
            clear hinv hgk hbr hbp hpr
            go_wp2_with fail
            refine HO.out.mono ?_; intro e w5 hd
            have HK := Lib.hid (HST.out w5 e hd)
            obtain ⟨m, er, rfl⟩ := hd.form
            clear hd HO HST
            go_wp2_with fail
            go_roundg (n - (k + 1))
            case measure => have := HG.out; omega
            case rel => exact ⟨k + 1, _, rfl, by omega, by omega, by go_num, HK.out, by rw [HPS.out.2]; exact HBP.out, by have h1 := HPS.out.1; have h2 := HPR.out; omega⟩
          · have hd0 : decide ((k : Int) < 60) = false := by simp; omega
            clear hinv hgk hbp hpr
            go_wp2_with fail
            all_goals go_meet
            all_goals exact ⟨S, HV.out, HBP.out, by have := HPR.out; omega⟩
        · clear hinv hgk hbp hpr
          go_wp2_with fail
          all_goals go_meet
          all_goals exact ⟨S, HV.out, HBP.out, by have := HPR.out; omega⟩
      -- </heavy>
    case rest =>
      obtain ⟨S, hinv, hbp, hpr⟩ := hcut
      have HV := Lib.hid hinv; have HG := Lib.hid hinv.good; have HBP := Lib.hid hbp; have HPR := Lib.hid hpr
      have HSV := Lib.hid (save_any g 0 S wc hinv.own hinv.good)
      have hsl := saveB_pos S
      obtain ⟨nb, hnb⟩ : ∃ nb, (saveB S).length = nb := ⟨_, rfl⟩
      unfold BytesOut at HSV
      rw [hnb] at HSV hsl
      have HNB := Lib.hid hnb
      clear hinv hbp hpr hnb
      go_wp2_with fail
      refine HSV.out.mono ?_; rintro e w3 ⟨Ab, cb, rfl, hrow, hb3⟩
      have hnc : nb ≤ cb := by
        rcases hrow.2 with ⟨h1, h2⟩ | ⟨g, cap, cur, h1, _, _, h4, _⟩
        · omega
        · injection h1 with _ _ h1; omega
      have HA3 := Lib.hid (HV.out.below hb3)
      have HLD := Lib.hid (load_any Ab cb nb S w3 HG.out HNB.out (own_mono hrow (Nat.zero_le _)) hnc)
      clear hrow hb3 HSV hnc
      go_wp2_with fail
      refine HLD.out.mono ?_; rintro e w4 ⟨g2, rfl, hg2l, ho2, hb4⟩
      have HA4 := Lib.hid (HA3.out.below hb4)
      have HO2 := Lib.hid ho2
      have hne : g2 ≠ g := by have := HA3.out.own.lt; omega
      have hg2w : w.heap.size ≤ g2 := by have := HA3.out.bel.size; omega
      have hgl4 := ho2.lt
      clear ho2 hb4 HLD HA3
      go_upto_region 11 with fail
      go_cut [75] from 61 to 75 (fun v75 wc => v75 = .bool false ∧ AccZ w wc g S ∧ OwnAt wc 0 g2 S)
      case first =>
        have HS1 := Lib.hid (save_any g2 0 S w4.drew (HO2.out.below (Below.refl _ _).drew) HG.out)
        refine Code.wp_mono (noPan_le _) ?_
        refine wp_region_any (by kernel_rfl) ?_
        change wpAny _ _ _ _ _ _ _ (World.drew _)
        refine wpAny_ready (rs := [0]) (by kernel_rfl) (by simp) ?_
        refine AllReady.cons rfl (fun K hK => ?_) AllReady.nil
        go_simp
        refine hK _ _ ?_
        clear hK K
        refine wpAny_ready (rs := [1]) (by kernel_rfl) (by simp) ?_
        refine AllReady.cons rfl (fun K hK => ?_) AllReady.nil
        go_simp
        refine hK _ _ ?_
        clear hK K
        refine wpAny_ready (rs := [2]) (by kernel_rfl) (by simp) ?_
        refine AllReady.cons rfl (fun K hK => ?_) AllReady.nil
        go_simp
        refine hK _ _ ?_
        clear hK K
        refine wpAny_ready (rs := [3]) (by kernel_rfl) (by simp) ?_
        refine AllReady.cons rfl (fun K hK => ?_) AllReady.nil
        go_simp
        refine hK _ _ ?_
        clear hK K
        refine wpAny_ready (rs := [4]) (by kernel_rfl) (by simp) ?_
        refine AllReady.cons rfl (fun K hK => ?_) AllReady.nil
        go_simp
        refine hK _ _ ?_
        clear hK K
        refine wpAny_ready (rs := [5]) (by kernel_rfl) (by simp) ?_
        refine AllReady.cons rfl (fun K hK => ?_) AllReady.nil
        go_simp
        refine hK _ _ ?_
        clear hK K
        refine wpAny_ready (rs := [6]) (by kernel_rfl) (by simp) ?_
        refine AllReady.cons rfl (fun K hK => ?_) AllReady.nil
        go_simp
        refine hK _ _ ?_
        clear hK K
        refine wpAny_take (i := 7) (v := ?v7) rfl (by kernel_rfl) (by kernel_rfl) (by kernel_rfl) (fun _ _ _ h => h) (Or.inl ⟨by rfl, ?h7⟩) ?_
        case h7 => intro w; go_simp; with_reducible rfl
        refine wpAny_take (i := 10) (v := ?v10) rfl (by kernel_rfl) (by kernel_rfl) (by kernel_rfl) (fun _ _ _ h => h) (Or.inl ⟨by rfl, ?h10⟩) ?_
        case h10 => intro w; go_simp; with_reducible rfl
        refine wpAny_ready (rs := [8]) (by kernel_rfl) (by simp) ?_
        refine AllReady.cons rfl (fun K hK => ?_) AllReady.nil
        refine step_call1S 26 (.tmp 68) 27 rfl (.pointer (some ⟨g2, 0, none⟩)) rfl (save_enter _) (by rfl) ?_
        refine HS1.out.mono ?_; rintro e w5 ⟨A5, c5, rfl, hr5, hb5⟩; refine ⟨_, rfl, ?_⟩
        have hbx5 : Below w4.heap.size w4 w5 := ((Below.refl w4.heap.size w4).drew).trans hb5
        rw [HNB.out] at hr5
        simp only [HNB.out]
        have hcv1 := conv_bytes hr5 HNB.out hsl
        have hx2 := Lib.hid (And.intro (HA4.out.below hbx5) (And.intro (HO2.out.below hbx5) hr5))
        clear hr5 hb5 hbx5
        try go_simp
        refine hK _ _ ?_
        clear hK K
        refine wpAny_ready (rs := [9, 11]) (by kernel_rfl) (by simp) ?_
        refine AllReady.cons rfl (fun K hK => ?_) (AllReady.cons rfl (fun K hK => ?_) AllReady.nil)
        · go_simp
          refine hK _ _ ?_
          clear hK K
          refine wpAny_ready (rs := [11]) (by kernel_rfl) (by simp) ?_
          refine AllReady.cons rfl (fun K hK => ?_) AllReady.nil
          refine step_call1S 26 (.tmp 71) 27 rfl (.pointer (some ⟨g, 0, none⟩)) rfl (save_enter _) (by rfl) ?_
          refine (save_any g 0 S _ hx2.out.1.own hx2.out.1.good).mono ?_; rintro e w6 ⟨A6, c6, rfl, hr6, hb6⟩; refine ⟨_, rfl, ?_⟩
          rw [HNB.out] at hr6
          simp only [HNB.out]
          have hcv2 := conv_bytes hr6 HNB.out hsl
          have hcv3 := conv_bytes (own_below hx2.out.2.2 hb6) HNB.out hsl
          have HEND := Lib.hid (And.intro (hx2.out.1.below hb6) (hx2.out.2.1.below hb6))
          clear hr6 hb6
          try go_simp
          refine hK _ _ ?_
          clear hK K
          refine wpAny_ready (rs := [12]) (by kernel_rfl) (by simp) ?_
          refine AllReady.cons rfl (fun K hK => ?_) AllReady.nil
          go_simp
          refine hK _ _ ?_
          clear hK K
          refine wpAny_ready (rs := [13]) (by kernel_rfl) (by simp) ?_
          refine AllReady.cons rfl (fun K hK => ?_) AllReady.nil
          go_simp
          refine hK _ _ ?_
          clear hK K
          refine wpAny_ready (rs := [14]) (by kernel_rfl) (by simp) ?_
          refine AllReady.cons rfl (fun K hK => ?_) AllReady.nil
          go_simp
          refine hK _ _ ?_
          clear hK K
          refine wpAny_done (by kernel_rfl) ?_ _
          simp only [noPan]
          clear hcv1 hcv2 hcv3
          go_wp2_with fail
          go_meet
          exact ⟨rfl, HEND.out⟩
        · refine step_call1S 26 (.tmp 71) 27 rfl (.pointer (some ⟨g, 0, none⟩)) rfl (save_enter _) (by rfl) ?_
          refine (save_any g 0 S _ hx2.out.1.own hx2.out.1.good).mono ?_; rintro e w6 ⟨A6, c6, rfl, hr6, hb6⟩; refine ⟨_, rfl, ?_⟩
          rw [HNB.out] at hr6
          simp only [HNB.out]
          have hcv2 := conv_bytes hr6 HNB.out hsl
          have hcv3 := conv_bytes (own_below hx2.out.2.2 hb6) HNB.out hsl
          have HEND := Lib.hid (And.intro (hx2.out.1.below hb6) (hx2.out.2.1.below hb6))
          clear hr6 hb6
          try go_simp
          refine hK _ _ ?_
          clear hK K
          refine wpAny_ready (rs := [9, 12]) (by kernel_rfl) (by simp) ?_
          refine AllReady.cons rfl (fun K hK => ?_) (AllReady.cons rfl (fun K hK => ?_) AllReady.nil)
          · go_simp
            refine hK _ _ ?_
            clear hK K
            refine wpAny_ready (rs := [12]) (by kernel_rfl) (by simp) ?_
            refine AllReady.cons rfl (fun K hK => ?_) AllReady.nil
            go_simp
            refine hK _ _ ?_
            clear hK K
            refine wpAny_ready (rs := [13]) (by kernel_rfl) (by simp) ?_
            refine AllReady.cons rfl (fun K hK => ?_) AllReady.nil
            go_simp
            refine hK _ _ ?_
            clear hK K
            refine wpAny_ready (rs := [14]) (by kernel_rfl) (by simp) ?_
            refine AllReady.cons rfl (fun K hK => ?_) AllReady.nil
            go_simp
            refine hK _ _ ?_
            clear hK K
            refine wpAny_done (by kernel_rfl) ?_ _
            simp only [noPan]
            clear hcv1 hcv2 hcv3
            go_wp2_with fail
            go_meet
            exact ⟨rfl, HEND.out⟩
          · go_simp
            refine hK _ _ ?_
            clear hK K
            refine wpAny_ready (rs := [9]) (by kernel_rfl) (by simp) ?_
            refine AllReady.cons rfl (fun K hK => ?_) AllReady.nil
            go_simp
            refine hK _ _ ?_
            clear hK K
            refine wpAny_ready (rs := [13]) (by kernel_rfl) (by simp) ?_
            refine AllReady.cons rfl (fun K hK => ?_) AllReady.nil
            go_simp
            refine hK _ _ ?_
            clear hK K
            refine wpAny_ready (rs := [14]) (by kernel_rfl) (by simp) ?_
            refine AllReady.cons rfl (fun K hK => ?_) AllReady.nil
            go_simp
            refine hK _ _ ?_
            clear hK K
            refine wpAny_done (by kernel_rfl) ?_ _
            simp only [noPan]
            clear hcv1 hcv2 hcv3
            go_wp2_with fail
            go_meet
            exact ⟨rfl, HEND.out⟩
      case rest =>
        obtain ⟨rfl, hcut⟩ := hcut
        have HAO := Lib.hid hcut
        clear hcut HA4 HO2 hgl4
        go_upto_block 2 with fail
        go_cut [12, 13, 14, 15] from 76 to 114 (fun v12 v13 v14 v15 wc => ∃ (T : Ac) (s : Int), v12 = .int .i64 s ∧ 0 ≤ s ∧ s ≤ 30000 ∧ AccZ w wc g T ∧ AdvTo S T s ∧ OwnAt wc 0 g2 S)
        case first =>
          go_wp2_with fail
          go_loopg [12, 13] nd (fun gh v12 v13 wr => ∃ (k : Nat) (T : Ac) (s : Int), gh = nd - k ∧ k ≤ nd ∧ k ≤ 30 ∧ v13 = .int .i64 k ∧ v12 = .int .i64 s ∧ 0 ≤ s ∧ s ≤ 1000 * k ∧ AccZ w wr g T ∧ AdvTo S T s ∧ OwnAt wr 0 g2 S)
          case atStart => exact ⟨0, S, 0, rfl, by omega, by omega, rfl, rfl, by omega, by omega, HAO.out.1, AdvTo.start HG.out, HAO.out.2⟩
          case round =>
            obtain ⟨k, T, s, hgk, hk, hk30, rfl, rfl, hs0, hs1, hacc, hadv, ho2⟩ := hrel
            have HGK := Lib.hid hgk; have HAC := Lib.hid hacc; have HAD := Lib.hid hadv; have HO := Lib.hid ho2
            by_cases hlt : k < nd
            · by_cases h30 : k < 30
              · have hkl : k < ds.length := by have := HND.out; omega
                obtain ⟨b, off, rfl, hb, c0⟩ := (HD.out.below hacc.bel).int_at hkl
                generalize ds[k] = d at *
                have d0 : decide ((k : Int) < 30) = true := by simp; omega
                have i1 : (0 : Int) ≤ (k : Int) := by omega
                have i2 : (k : Int) < (nd : Int) := by omega
                have hbw : b < wr.heap.size := Nat.lt_of_lt_of_le hb hacc.bel.size
                by_cases hneg : d < 0
                · have d1 : decide (d < 0) = true := by simpa using hneg
                  clear hgk hacc hadv ho2 hneg
                  go_wp2_with fail
                  go_roundg (nd - (k + 1))
                  case measure => have := HGK.out; omega
                  case rel => exact ⟨k + 1, T, s, rfl, by omega, by omega, by go_num, rfl, hs0, by omega, HAC.out, HAD.out, HO.out⟩
                · have d1 : decide (d < 0) = false := by simpa using hneg
                  by_cases hbig : 1000 < d
                  · have d2 : decide (d > 1000) = true := by simpa using hbig
                    clear hgk hacc hadv ho2 hneg hbig
                    go_wp2_with fail
                    go_roundg (nd - (k + 1))
                    case measure => have := HGK.out; omega
                    case rel => exact ⟨k + 1, T, s, rfl, by omega, by omega, by go_num, rfl, hs0, by omega, HAC.out, HAD.out, HO.out⟩
                  · have d2 : decide (d > 1000) = false := by simpa using hbig
                    have HAV := Lib.hid (uadvance_any g 0 T d wr hacc.own hacc.good)
                    have HST := Lib.hid (fun w' e (hd : DoesOf wr g T (advanceS T d) e w') => And.intro (hacc.step hgw hd (hacc.good.advance d) advance_same) (hd.other hacc.own ho2 hne))
                    have hws : IntKind.i64.wrap (s + d) = s + d := IntWalk.i64_in _ (by omega)
                    clear hgk hacc hadv ho2
                    go_wp2_with fail
                    refine HAV.out.mono ?_; intro e w5 hd5
                    obtain ⟨ha5, ho5⟩ := HST.out w5 e hd5
                    by_cases h0 : (advanceS T d).2.2 = 0
                    · have h1 := hd5.good h0
                      have hnx := HAD.out.next HG.out hs0 h0
                      obtain ⟨T5, hT5⟩ : ∃ T5, (advanceS T d).1 = T5 := ⟨_, rfl⟩
                      obtain ⟨m, hm5⟩ : ∃ m, (advanceS T d).2.1 = m := ⟨_, rfl⟩
                      rw [hT5] at ha5 hnx
                      rw [hm5] at h1
                      subst h1
                      obtain ⟨m0, m1, m2, m3, m4, m5⟩ := m
                      have hax := ha5.below (bnewU w5 (mvO7 m0 m1 m2 m3 m4 m5))
                      have hox := ho5.below (bnewU w5 (mvO7 m0 m1 m2 m3 m4 m5))
                      have c1 := cells_below (bnewU w5 (mvO7 m0 m1 m2 m3 m4 m5)) (Nat.lt_of_lt_of_le hbw hd5.1.size) ((hd5.cellD ⟨hbw, by show b ≠ g; omega⟩).trans c0)
                      have HAX := Lib.hid hax; have HOX := Lib.hid hox; have HNX := Lib.hid hnx
                      have hbx : b < (w5.alloc (mvO7 m0 m1 m2 m3 m4 m5)).heap.size := Nat.lt_of_lt_of_le (Nat.lt_of_lt_of_le hbw hd5.1.size) (bnewU w5 (mvO7 m0 m1 m2 m3 m4 m5)).size
                      clear hd5 ha5 ho5 hnx hT5 hm5 hax hox h0 HST HAV c0
                      go_upto_region 19 with fail
                      generalize w5.alloc (mvO7 m0 m1 m2 m3 m4 m5) = X at *
                      go_wp2_with fail
                      go_roundg (nd - (k + 1))
                      case measure => have := HGK.out; omega
                      case rel => exact ⟨k + 1, T5, s + d, rfl, by omega, by omega, by go_num, rfl, by omega, by omega, HAX.out, HNX.out, HOX.out⟩
                    · have h1 : e = .returned (mvR ⟨0, 0, 0, 0, 0, 0⟩ (advanceS T d).2.2) := hd5.bad h0
                      rw [advance_same h0] at ha5
                      obtain ⟨er, her⟩ : ∃ er, (advanceS T d).2.2 = er := ⟨_, rfl⟩
                      rw [her] at h1 h0
                      subst h1
                      have hax := ha5.below (bnewU w5 (mvO7 0 0 0 0 0 0))
                      have hox := ho5.below (bnewU w5 (mvO7 0 0 0 0 0 0))
                      have hne0 : (er == 0) = false := by simpa using h0
                      have HAX := Lib.hid hax; have HOX := Lib.hid hox
                      clear hd5 ha5 ho5 her hax hox h0 HST HAV c0
                      go_upto_region 19 with fail
                      generalize w5.alloc (mvO7 0 0 0 0 0 0) = X at *
                      go_wp2_with fail
                      go_roundg (nd - (k + 1))
                      case measure => have := HGK.out; omega
                      case rel => exact ⟨k + 1, T, s, rfl, by omega, by omega, by go_num, rfl, hs0, by omega, HAX.out, HAD.out, HOX.out⟩
              · have d0 : decide ((k : Int) < 30) = false := by simp; omega
                clear hgk hacc hadv ho2
                go_wp2_with fail
                all_goals go_meet
                all_goals exact ⟨T, s, rfl, hs0, by omega, HAC.out, HAD.out, HO.out⟩
            · clear hgk hacc hadv ho2
              go_wp2_with fail
              all_goals go_meet
              all_goals exact ⟨T, s, rfl, hs0, by omega, HAC.out, HAD.out, HO.out⟩
        case rest =>
          obtain ⟨T, s, rfl, hs0, hs1, hacc, hadv, ho2⟩ := hcut
          obtain ⟨e1, e2⟩ := AdvTo.at_once HG.out HBP.out HPR.out hadv hs0 hs1 hacc.good.day.2
          have HAV := Lib.hid (uadvance_any g2 0 S s wc ho2 HG.out)
          have HAC := Lib.hid hacc; have HO := Lib.hid ho2; have HE1 := Lib.hid e1; have HE2 := Lib.hid e2
          clear hacc hadv ho2 e1 e2 HAO
          go_wp2_with fail
          refine HAV.out.mono ?_; intro e w5 hd5
          have h1 := hd5.good HE1.out
          have ha5 : OwnAt w5 0 g T := hd5.other HO.out HAC.out.own hne.symm
          have hb5 : OwnAt w5 0 g2 T := by
            rcases hd5.2 with ⟨_, _, ho⟩ | ⟨h, _⟩
            · rw [HE2.out] at ho; exact ho
            · exact absurd HE1.out h
          have hbw5 : Below w.heap.size w w5 := ⟨hd5.1.os.trans HAC.out.bel.os, hd5.1.tape.trans HAC.out.bel.tape, hd5.1.output.trans HAC.out.bel.output, Nat.le_trans HAC.out.bel.size hd5.1.size, fun k hk => (hd5.1.block k (Nat.lt_of_lt_of_le hk HAC.out.bel.size) (fun e => by have := Option.some.inj e; omega)).trans (HAC.out.bel.block k hk)⟩
          obtain ⟨m, hm5⟩ : ∃ m, (advanceS S s).2.1 = m := ⟨_, rfl⟩
          rw [hm5] at h1
          subst h1
          obtain ⟨m0, m1, m2, m3, m4, m5⟩ := m
          have hax := ha5.below (bnewU w5 (mvO7 m0 m1 m2 m3 m4 m5))
          have hbx := hb5.below (bnewU w5 (mvO7 m0 m1 m2 m3 m4 m5))
          have hwx := hbw5.trans ((bnewU w5 (mvO7 m0 m1 m2 m3 m4 m5)).mono hbw5.size)
          have HAX := Lib.hid hax; have HBX := Lib.hid hbx; have HWX := Lib.hid hwx; have HGT := Lib.hid HAC.out.good
          clear hd5 ha5 hb5 hbw5 hm5 hax hbx hwx HAV HAC HO HE1 HE2 hs0 hs1
          have hsl := saveB_pos T
          obtain ⟨nb, hnb⟩ : ∃ nb, (saveB T).length = nb := ⟨_, rfl⟩
          rw [hnb] at hsl
          have HNB := Lib.hid hnb
          clear hnb
          go_upto_region 22 with fail
          generalize w5.alloc (mvO7 m0 m1 m2 m3 m4 m5) = X at *
          have HS1 := Lib.hid (save_any g 0 T X.drew (HAX.out.below (Below.refl _ _).drew) HGT.out)
          have hx2 := Lib.hid True.intro
          go_region_law (first
            | (refine step_call1S 26 (.tmp 124) 27 rfl (.pointer (some ⟨g, 0, none⟩)) rfl (save_enter _) (by rfl) ?_
               refine HS1.out.mono ?_; rintro e w7 ⟨A7, c7, rfl, hr7, hb7⟩; refine ⟨_, rfl, ?_⟩
               have hbx7 : Below X.heap.size X w7 := ((Below.refl X.heap.size X).drew).trans hb7
               rw [HNB.out] at hr7
               simp only [HNB.out]
               have hcv1 := conv_bytes hr7 HNB.out hsl
               have hx2 := Lib.hid (And.intro (HBX.out.below hbx7) (And.intro hbx7 hr7))
               clear hr7 hb7 hbx7)
            | (refine step_call1S 26 (.tmp 127) 27 rfl (.pointer (some ⟨g2, 0, none⟩)) rfl (save_enter _) (by rfl) ?_
               refine (save_any g2 0 T _ hx2.out.1 HGT.out).mono ?_; rintro e w8 ⟨A8, c8, rfl, hr8, hb8⟩; refine ⟨_, rfl, ?_⟩
               rw [HNB.out] at hr8
               simp only [HNB.out]
               have hcv2 := conv_bytes hr8 HNB.out hsl
               have hcv3 := conv_bytes (own_below hx2.out.2.2 hb8) HNB.out hsl
               have HEND := Lib.hid (hx2.out.2.1.trans (hb8.mono hx2.out.2.1.size))
               clear hr8 hb8))
          all_goals clear hcv1 hcv2 hcv3
          all_goals go_wp2_with fail
          all_goals go_ret
          all_goals exact ⟨rfl, HWX.out.trans (HEND.out.mono HWX.out.size)⟩
  · have hb' : bm = true := by simpa using hok
    subst hb'
    go_wp2_with fail
    all_goals go_ret
    all_goals exact ⟨rfl, HA0.out.bel⟩
end Go.Proofs.YtbjjgnaojoaoiaaGreat
