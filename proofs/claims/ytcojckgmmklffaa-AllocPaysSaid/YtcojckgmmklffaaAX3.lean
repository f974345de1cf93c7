/- The reference's Pay: the walk. -/
import Derived.Test.YtcojckgmmklffaaAX2
import Derived.Deep.DeepCutAuto
import Derived.Deep.CutBlock
namespace Go.Proofs.Ytcojckgmmklffaa
open Go.RowKit Go
set_option linter.unusedVariables false
set_option linter.unusedSimpArgs false

theorem Keeps2.up {a b : Nat} {w w' w'' : World} (h : Keeps2 a b w w') (hb : Below w'.heap.size w' w'') : Keeps2 a b w w'' :=
  ⟨hb.os.trans h.os, hb.tape.trans h.tape, hb.output.trans h.output, Nat.le_trans h.size hb.size, fun x hx h1 h2 => (hb.block x (Nat.lt_of_lt_of_le hx h.size)).trans (h.block x hx h1 h2)⟩
set_option maxHeartbeats 6400000 in
set_option maxRecDepth 100000 in
theorem payRef_any (A : Option Addr) (its : List Dq) (a : Int) (n c : Nat) (w : World) (hn : its.length = n) (hr : Rd w w.heap.size 4 A n (itCs its)) (hm : n ≤ maxLen) :
    Calls Try.prog 16 #[.slice A n c, .int .i64 a] w (PayOf its a w) := by
  unfold maxLen at hm
  have HN := Lib.hid hn; have HR := Lib.hid hr
  by_cases ha : 0 ≤ a ∧ a ≤ 4611686018427387904
  · have HP : Hid (payE its a = placesE its) := Lib.hid (if_pos ha)
    have HRT := Lib.hid (right_any A its c w (by subst hn; exact hr) (by unfold maxLen; omega))
    rw [hn] at HRT
    obtain ⟨ha1, ha2⟩ := ha
    clear hn hr
    go_enter Try.func16, Try.ntmps16
    go_wp2_with fail
    refine HRT.out.mono ?_
    rintro e w1 ⟨rfl, hb1⟩
    have HB1 := Lib.hid hb1; have HR1 := Lib.hid (HR.out.below hb1)
    have hz1 := hb1.size
    clear hb1
    rcases placesE_cases its with he | he | he
    · rw [he]
      have HE := Lib.hid he; clear he
      have h200 : n ≤ 200 := by have := (placesE_ok HE.out).1; have := HN.out; omega
      obtain ⟨_, hok, hnd⟩ := placesE_ok HE.out
      obtain ⟨d, hpd, hri⟩ := rise_ex hnd
      have HOK := Lib.hid hok; have HND := Lib.hid hnd; have HPD := Lib.hid hpd; have HRI := Lib.hid hri
      have HDL : Hid (d.length = n) := Lib.hid (by rw [hpd.len]; exact HN.out)
      clear hok hnd hpd hri
      have hmk := run_make_row' (P := Try.prog) 31 2 (.int .i64 0) 8 Try.underlying31 info_i64 rfl .i64 .i64 n (by omega) (by omega)
      have hmk2 := run_make_row' (P := Try.prog) 47 4 (.bool false) 1 Try.underlying47 info_bool rfl .i64 .i64 n (by omega) (by omega)
      rw [made_ints] at hmk
      rw [made_bls] at hmk2
      have HMK := hmk w1
      have HMK2 := hmk2 (w1.alloc (.cells (ints (List.replicate n 0)).toArray 2))
      simp only [World.size_alloc] at HMK2
      clear hmk hmk2
      go_wp2_with fail
      clear HMK HMK2
      have hst1 : ((w1.alloc (.cells (ints (List.replicate n 0)).toArray 2)).alloc (.cells (bls (List.replicate n false)).toArray 4)).heap[w1.heap.size]? = some (.cells (ints (paidTo its a d 0)).toArray 2 (0, 0)) := by
        rw [paidTo_zero, HN.out]; exact blk_alloc (blk_new _ _ rfl) _
      have hst2 : ((w1.alloc (.cells (ints (List.replicate n 0)).toArray 2)).alloc (.cells (bls (List.replicate n false)).toArray 4)).heap[w1.heap.size + 1]? = some (.cells (bls (doneTo d n 0)).toArray 4 (0, 0)) := by
        rw [doneTo_zero]; exact blk_new _ _ (by simp)
      have HST1 := Lib.hid hst1; have HST2 := Lib.hid hst2
      have HL0 := Lib.hid (leftTo_zero (its := its) (amount := a) (d := d) ha1)
      have HK0 : Hid (Keeps2 w1.heap.size (w1.heap.size + 1) w1 ((w1.alloc (.cells (ints (List.replicate n 0)).toArray 2)).alloc (.cells (bls (List.replicate n false)).toArray 4))) := Lib.hid (((Keeps2.refl _ _ _).alloc _).alloc _)
      clear hst1 hst2
      obtain ⟨go, hgo⟩ : ∃ go, go = w1.heap.size := ⟨_, rfl⟩
      obtain ⟨gd, hgd⟩ : ∃ gd, gd = w1.heap.size + 1 := ⟨_, rfl⟩
      generalize (w1.alloc (.cells (ints (List.replicate n 0)).toArray 2)).alloc (.cells (bls (List.replicate n false)).toArray 4) = W2 at *
      rw [← hgd] at HST2 HK0 ⊢
      rw [← hgo] at HST1 HK0 ⊢
      have hne1 : go ≠ gd := by omega
      have hne2 : gd ≠ go := by omega
      have hgow : w1.heap.size ≤ go := by omega
      have hgdw : w1.heap.size ≤ gd := by omega
      clear hgo hgd
      go_loopg [1, 10] n (fun gh va vi wr => ∃ j : Nat, gh = n - j ∧ j ≤ n ∧ vi = .int .i64 j ∧ va = .int .i64 (leftTo its a d j) ∧ wr.heap[go]? = some (.cells (ints (paidTo its a d j)).toArray 2 (0, 0)) ∧ wr.heap[gd]? = some (.cells (bls (doneTo d n j)).toArray 4 (0, 0)) ∧ Keeps2 go gd w1 wr)
      case atStart => exact ⟨0, rfl, by omega, rfl, by rw [HL0.out], HST1.out, HST2.out, HK0.out⟩
      case round =>
        obtain ⟨j, hgj, hj, rfl, rfl, hbo, hbd, hk⟩ := hrel
        have HGJ := Lib.hid hgj; have HBO := Lib.hid hbo; have HBD := Lib.hid hbd; have HK := Lib.hid hk
        clear hgj hbo hbd hk
        by_cases hlt : j < n
        · have hjd : j < d.length := by have := HDL.out; omega
          go_wp2_with fail
          go_loopg [11, 12] n (fun gh vf vi wx => ∃ (i : Nat) (b : Int), gh = n - i ∧ i ≤ n ∧ vi = .int .i64 i ∧ vf = .int .i64 b ∧ First its d j i b ∧ (b = -1 ∨ 0 ≤ b ∧ b < n) ∧ Below wr.heap.size wr wx)
          case atStart => exact ⟨0, -1, rfl, by omega, rfl, rfl, First.start its d j, .inl rfl, Below.refl _ _⟩
          case round =>
            obtain ⟨i, b, hgi, hi, rfl, rfl, hfi, hb01, hbx⟩ := hrel
            have HGI := Lib.hid hgi; have HFI := Lib.hid hfi; have HB01 := Lib.hid hb01; have HX := Lib.hid hbx
            have HBOX := Lib.hid (blk_below HBO.out hbx (blk_lt HBO.out)); have HBDX := Lib.hid (blk_below HBD.out hbx (blk_lt HBD.out))
            have HKX := Lib.hid (HK.out.up hbx)
            have hzx := hbx.size
            clear hgi hfi hb01 hbx
            by_cases hil : i < n
            · have hil' : i < its.length := by have := HN.out; omega
              obtain ⟨bi, oi, rfl, hbi, x0, x1, x2, x3⟩ := HR1.out.it hil'
              have cd := blk_cell HBDX.out i
              rw [List.getElem?_toArray, bls_at _ _ (by rw [doneTo_len]; exact hil), doneTo_at _ _ _ _ hil] at cd
              have j1 : (0 : Int) ≤ (i : Int) := by omega
              have j2 : (i : Int) < (n : Int) := by omega
              by_cases hmk : (i : Int) ∈ d.take j
              · have HF2 := Lib.hid (HFI.out.marked hmk)
                rw [decide_eq_true hmk] at cd
                clear hmk x0 x1 x2 x3
                go_wp2_with fail
                go_quiet (fail)
                clear cd
                go_wp2_with fail
                go_roundg (n - (i + 1))
                case measure => have := HGI.out; omega
                case rel => exact ⟨i + 1, b, rfl, by omega, by go_num, rfl, HF2.out, HB01.out, below_drewN HX.out _⟩
              · rw [decide_eq_false hmk] at cd
                have HMK := Lib.hid hmk; clear hmk
                rcases HB01.out with hb | ⟨hb1, hb2⟩
                · have HF2 := Lib.hid (HFI.out.fresh HMK.out (.inl (by omega)))
                  have hbneg : b < 0 := by omega
                  clear hb x0 x1 x2 x3
                  go_wp2_with fail
                  go_quiet (fail)
                  clear cd
                  go_wp2_with fail
                  go_roundg (n - (i + 1))
                  case measure => have := HGI.out; omega
                  case rel => exact ⟨i + 1, i, rfl, by omega, by go_num, rfl, HF2.out, .inr ⟨by omega, by omega⟩, below_drewN HX.out _⟩
                · obtain ⟨q, rfl⟩ := Int.eq_ofNat_of_zero_le hb1
                  have hq : q < its.length := by have := HN.out; omega
                  obtain ⟨y0, y1, y2, y3⟩ := HR1.out.it2 hq
                  have hcw : ∀ o, wr.cell? ⟨bi, o, none⟩ = w1.cell? ⟨bi, o, none⟩ := fun o => HKX.out.cell (by omega) (by omega) (by omega)
                  replace x0 := (hcw _).trans x0; replace x1 := (hcw _).trans x1; replace x2 := (hcw _).trans x2; replace x3 := (hcw _).trans x3
                  replace y0 := (hcw _).trans y0; replace y1 := (hcw _).trans y1; replace y2 := (hcw _).trans y2; replace y3 := (hcw _).trans y3
                  have HKY := Lib.hid (aheadI_key (List.all_eq_true.1 HOK.out its[i] (List.getElem_mem _)) (List.all_eq_true.1 HOK.out its[q] (List.getElem_mem _)))
                  have HFR : Hid (keyI its[i] < keyI its[q] → First its d j (i + 1) (i : Int)) := Lib.hid (fun h => HFI.out.fresh HMK.out (.inr (by rw [Int.toNat_natCast, getD_it hil', getD_it hq]; exact h)))
                  have HSTY : Hid (¬ keyI its[i] < keyI its[q] → First its d j (i + 1) (q : Int)) := Lib.hid (fun h => HFI.out.stays HND.out hil' (by omega) (by rw [Int.toNat_natCast, getD_it hil', getD_it hq]; exact h))
                  generalize its[i] = x at *
                  generalize its[q] = y at *
                  obtain ⟨t, ht⟩ : ∃ t, aheadI x y = t := ⟨_, rfl⟩
                  have HT := Lib.hid ht
                  rw [ht] at HKY
                  clear ht hcw
                  have j3 : (0 : Int) ≤ (q : Int) := by omega
                  have j4 : (q : Int) < (n : Int) := by omega
                  have hqd : decide ((q : Int) < 0) = false := decide_eq_false (by omega)
                  have g3 : bi < wr.heap.size := World.block_lt_of_cell? _ _ x0
                  have g4 : gd < wr.heap.size := World.block_lt_of_cell? _ _ cd
                  go_wp2_with fail
                  go_region_held3 (fun w' => w'.cell? ⟨gd, i, none⟩ = some (.bool false) ∧ w'.cell? ⟨bi, oi + i * 4, none⟩ = some (.int .i64 x.due) ∧ w'.cell? ⟨bi, oi + i * 4 + 1, none⟩ = some (.int .i64 x.kind) ∧ w'.cell? ⟨bi, oi + i * 4 + 2, none⟩ = some (.int .i64 x.per) ∧ w'.cell? ⟨bi, oi + i * 4 + 3, none⟩ = some (.int .i64 x.opn) ∧
                      w'.cell? ⟨bi, oi + q * 4, none⟩ = some (.int .i64 y.due) ∧ w'.cell? ⟨bi, oi + q * 4 + 1, none⟩ = some (.int .i64 y.kind) ∧ w'.cell? ⟨bi, oi + q * 4 + 2, none⟩ = some (.int .i64 y.per) ∧ w'.cell? ⟨bi, oi + q * 4 + 3, none⟩ = some (.int .i64 y.opn))
                    ((first | (with_reducible exact ⟨cd, x0, x1, x2, x3, y0, y1, y2, y3⟩) | exact ⟨cd, x0, x1, x2, x3, y0, y1, y2, y3⟩ | exact ⟨(hcB _ g4).trans cd, (hcB _ g3).trans x0, (hcB _ g3).trans x1, (hcB _ g3).trans x2, (hcB _ g3).trans x3, (hcB _ g3).trans y0, (hcB _ g3).trans y1, (hcB _ g3).trans y2, (hcB _ g3).trans y3⟩))
                    ((go_at_call 18; refine (ahead_any x y wr.drew).mono ?_; rintro e w2 ⟨rfl, hw2⟩; have hcB := fun (a : Addr) (hp : a.block < wr.heap.size) => hw2.cell hp; have HW2 := Lib.hid hw2; clear hw2; rw [HT.out]))
                  have HB3 := Lib.hid (HX.out.trans (((Below.refl _ _).drew.trans HW2.out).mono hzx))
                  clear hcB cd x0 x1 x2 x3 y0 y1 y2 y3 hqd
                  cases t with
                  | true =>
                    have HF2 := Lib.hid (HFR.out (by have := of_decide_eq_true HKY.out.symm; omega))
                    go_wp2_with fail
                    go_roundg (n - (i + 1))
                    case measure => have := HGI.out; omega
                    case rel => exact ⟨i + 1, i, rfl, by omega, by go_num, rfl, HF2.out, .inr ⟨by omega, by omega⟩, HB3.out⟩
                  | false =>
                    have HF2 := Lib.hid (HSTY.out (by have := of_decide_eq_false HKY.out.symm; omega))
                    go_wp2_with fail
                    go_roundg (n - (i + 1))
                    case measure => have := HGI.out; omega
                    case rel => exact ⟨i + 1, q, rfl, by omega, by go_num, rfl, HF2.out, .inr ⟨by omega, by omega⟩, HB3.out⟩
            · have hin : i = n := by omega
              subst hin
              obtain ⟨p, ep, hp⟩ := HPD.out.at hjd
              have hbd : b = (p : Int) := by
                have h := HFI.out
                rw [← HN.out] at h
                exact (h.is HPD.out HRI.out hjd).trans ep
              subst hbd
              obtain ⟨bi, oi, rfl, hbi, x0, x1, x2, x3⟩ := HR1.out.it hp
              have cx : wr.cell? ⟨bi, oi + p * 4 + 3, none⟩ = some (.int .i64 its[p].opn) := (HKX.out.cell (by omega) (by omega) (by omega)).trans x3
              obtain ⟨s1, s2⟩ := pay_step (amount := a) HOK.out HPD.out HRI.out hjd ep hp
              have hbx := okI_yes (List.all_eq_true.1 HOK.out its[p] (List.getElem_mem _))
              have hlb := leftTo_bd (d := d) HOK.out HPD.out ha1 j
              obtain ⟨m, hm'⟩ : ∃ m, paidI its a its[p] = m := ⟨_, rfl⟩
              have hst := paidTo_step (amount := a) hjd ep hp
              have hsd := doneTo_step (n := i) hjd ep (by have := HN.out; omega)
              rw [hm'] at s1 hst
              rw [← s1] at s2
              have hpn : p < i := by have := HN.out; omega
              have hao : wr.cell? ⟨go, p, none⟩ = some (.int .i64 ((paidTo its a d j)[p]'(by rw [paidTo_len]; exact hp))) := by
                rw [blk_cell HBOX.out, List.getElem?_toArray, ints_at _ _ (by rw [paidTo_len]; exact hp)]
              have hfo : wr.frozen? ⟨go, p, none⟩ = false := blk_free HBOX.out p
              have had : wr.cell? ⟨gd, p, none⟩ = some (.bool ((doneTo d i j)[p]'(by rw [doneTo_len]; exact hpn))) := by
                rw [blk_cell HBDX.out, List.getElem?_toArray, bls_at _ _ (by rw [doneTo_len]; exact hpn)]
              have hfd : wr.frozen? ⟨gd, p, none⟩ = false := blk_free HBDX.out p
              generalize (paidTo its a d j)[p]'(by rw [paidTo_len]; exact hp) = old at hao
              generalize (doneTo d i j)[p]'(by rw [doneTo_len]; exact hpn) = old2 at had
              have HST := Lib.hid hst; have HS2 := Lib.hid s2; have HSD := Lib.hid hsd
              have HS1 := Lib.hid s1
              have hopn : 0 ≤ its[p].opn ∧ its[p].opn ≤ 4611686018427387904 := by omega
              have hla : 0 ≤ leftTo its a d j ∧ leftTo its a d j ≤ 4611686018427387904 := ⟨hlb.1, by have := hlb.2; omega⟩
              generalize its[p].opn = o at *
              generalize leftTo its a d j = am at *
              clear x0 x1 x2 x3 ep hbx hlb hm' hst s1 s2 hsd
              obtain ⟨o1, o2⟩ := hopn
              obtain ⟨l1, l2⟩ := hla
              have i1 : (0 : Int) ≤ (p : Int) := by omega
              have i2 : (p : Int) < (i : Int) := by omega
              go_wp2_with fail
              go_roundg (i - (j + 1))
              case measure => have := HGJ.out; omega
              case rel =>
                refine ⟨j + 1, rfl, by omega, by go_num, by rw [HS2.out, HS1.out], ?_, ?_, (HKX.out.set1 _ _).set2 _ _⟩
                · rw [HST.out, HS1.out, ← ints_set']; exact blk_far (p := ⟨gd, p, none⟩) (blk_set HBOX.out p _) hne1 _
                · rw [HSD.out, ← bls_set]; exact blk_set (blk_far (p := ⟨go, p, none⟩) HBDX.out hne2 _) p _
        · have hjn : j = n := by omega
          subst hjn
          have HL : Hid (leftTo its a d j = leftI its a) := Lib.hid (by have := leftTo_all (amount := a) HPD.out; rwa [HDL.out] at this)
          have HF : Hid (paidTo its a d j = payL its a) := Lib.hid (by have := paidTo_all (amount := a) HPD.out; rwa [HDL.out] at this)
          have HLEN : Hid ((ints (paidTo its a d j)).length = j) := Lib.hid (by rw [ints_len, paidTo_len]; exact HN.out)
          go_wp2_with fail
          go_ret3
          refine ⟨HK.out.below HB1.out (by omega) (by omega) (Nat.le_refl _), .inr ⟨by rw [HP.out]; exact HE.out, some ⟨go, 0, none⟩, j, by rw [HL.out, HN.out]; rfl, ?_, by rw [HN.out]; exact Nat.le_refl _⟩⟩
          rw [← HF.out, HN.out]
          exact ⟨by rw [HLEN.out]; omega, fun _ => ⟨go, 0, rfl, blk_lt HBO.out, fun q hq => by rw [Nat.zero_add]; exact (blk_cell HBO.out q).trans (by simp)⟩⟩
    · rw [he]
      have HE := Lib.hid he; clear he
      go_wp2_with fail
      go_ret3
      exact ⟨HB1.out, .inl ⟨by rw [HP.out, HE.out]; decide, by rw [HP.out, HE.out]; rfl⟩⟩
    · rw [he]
      have HE := Lib.hid he; clear he
      go_wp2_with fail
      go_ret3
      exact ⟨HB1.out, .inl ⟨by rw [HP.out, HE.out]; decide, by rw [HP.out, HE.out]; rfl⟩⟩
  · have HP : Hid (payE its a = 1) := Lib.hid (if_neg ha)
    by_cases h0 : a < 0
    · clear ha
      go_enter Try.func16, Try.ntmps16
      go_wp2_with fail
      go_ret3
      exact ⟨(by repeat' (first | (with_reducible exact Below.refl _ _) | (with_reducible refine Below.alloc ?_ ?_ _) | (with_reducible refine below_drewN ?_ _) | (with_reducible refine Below.drew ?_) | (with_reducible refine Below.setCell ?_ ?_ _) | (with_reducible refine Below.trans ?_ (Below.mono HW0.out ?_)) | (with_reducible refine Below.trans ?_ (Below.mono HW1.out ?_)) | (with_reducible refine Below.trans ?_ (Below.mono HW2.out ?_)) | (with_reducible refine Below.trans ?_ (Below.mono HW3.out ?_)) | (with_reducible refine Below.trans ?_ (Below.mono HW4.out ?_)) | (with_reducible refine Below.trans ?_ (Below.mono HW5.out ?_)) | (with_reducible refine Below.trans ?_ (Below.mono HW6.out ?_)) | (with_reducible refine Below.trans ?_ (Below.mono HW7.out ?_)) | (with_reducible exact Nat.le_refl _) | omega | (simp only [World.size_alloc, World.size_setCell, World.size_drew, size_drewN]; omega) | (simp; done) | (simp; omega))), .inl ⟨by rw [HP.out]; decide, by rw [HP.out]; rfl⟩⟩
    · have h1 : 4611686018427387904 < a := by omega
      clear ha
      go_enter Try.func16, Try.ntmps16
      go_wp2_with fail
      go_ret3
      exact ⟨(by repeat' (first | (with_reducible exact Below.refl _ _) | (with_reducible refine Below.alloc ?_ ?_ _) | (with_reducible refine below_drewN ?_ _) | (with_reducible refine Below.drew ?_) | (with_reducible refine Below.setCell ?_ ?_ _) | (with_reducible refine Below.trans ?_ (Below.mono HW0.out ?_)) | (with_reducible refine Below.trans ?_ (Below.mono HW1.out ?_)) | (with_reducible refine Below.trans ?_ (Below.mono HW2.out ?_)) | (with_reducible refine Below.trans ?_ (Below.mono HW3.out ?_)) | (with_reducible refine Below.trans ?_ (Below.mono HW4.out ?_)) | (with_reducible refine Below.trans ?_ (Below.mono HW5.out ?_)) | (with_reducible refine Below.trans ?_ (Below.mono HW6.out ?_)) | (with_reducible refine Below.trans ?_ (Below.mono HW7.out ?_)) | (with_reducible exact Nat.le_refl _) | omega | (simp only [World.size_alloc, World.size_setCell, World.size_drew, size_drewN]; omega) | (simp; done) | (simp; omega))), .inl ⟨by rw [HP.out]; decide, by rw [HP.out]; rfl⟩⟩
end Go.Proofs.Ytcojckgmmklffaa
