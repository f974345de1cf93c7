/- Laws. -/
import Derived.Test.YtbjjgnaojoaoiaaGreatZZ20
import Derived.Deep.CutBlock
namespace Go.Proofs.YtbjjgnaojoaoiaaGreat
open Go.RowKit Go
set_option linter.unusedVariables false
set_option linter.unusedSimpArgs false
set_option maxHeartbeats 6400000
set_option maxRecDepth 100000
theorem Keeps2.up {a b : Nat} {w w' w'' : World} (h : Keeps2 a b w w') (hb : Below w'.heap.size w' w'') : Keeps2 a b w w'' :=
 ⟨hb.os.trans h.os, hb.tape.trans h.tape, hb.output.trans h.output, Nat.le_trans h.size hb.size, fun x hx h1 h2 => (hb.block x (Nat.lt_of_lt_of_le hx h.size)).trans (h.block x hx h1 h2)⟩
theorem payRef_any (A : Option Addr) (its : List Dq) (a : Int) (n c : Nat) (w : World) (hn : its.length = n) (hr : Rd w w.heap.size 4 A n (itCs its)) (hm : n ≤ maxLen) :
  Calls Tryz.prog 164 #[.slice A n c, .int .i64 a] w (PayOf its a w) := by
 unfold maxLen at hm
 have HN := hyd hn; have HR := hyd hr
 by_cases ha : 0 ≤ a ∧ a ≤ 4611686018427387904
 · have HP : Hid (payE its a = placesE its) := hyd (if_pos ha)
   have HRT := hyd (right17_any A its c w (by subst hn; exact hr) (by unfold maxLen; omega))
   rw [hn] at HRT
   obtain ⟨ha1, ha2⟩ := ha
   clear hn hr
   go_enter Tryz.func164, Tryz.ntmps164
   go_wp2_with fail
   refine HRT.out.mono ?_
   rintro e w1 ⟨rfl, hb1⟩
   have HB1 := hyd hb1; have HR1 := hyd (HR.out.below hb1)
   have hz1 := hb1.size
   clear hb1
   rcases placesE_cases its with he | he | he
   · rw [he]
     have HE := hyd he; clear he
     have h200 : n ≤ 200 := by have := (placesE_ok HE.out).1; have := HN.out; omega
     obtain ⟨_, hok, hnd⟩ := placesE_ok HE.out
     obtain ⟨d, hpd, hri⟩ := rise_ex hnd
     have HOK := hyd hok; have HND := hyd hnd; have HPD := hyd hpd; have HRI := hyd hri
     have HDL : Hid (d.length = n) := hyd (by rw [hpd.len]; exact HN.out)
     clear hok hnd hpd hri
     have hmk := run_make_row' (P := Tryz.prog) 26 2 (.int .i64 0) 8 Tryz.underlying26 info_i64 rfl .i64 .i64 n (by omega) (by omega)
     have hmk2 := run_make_row' (P := Tryz.prog) 220 4 (.bool false) 1 Tryz.underlying220 info_bool rfl .i64 .i64 n (by omega) (by omega)
     rw [made_ints] at hmk
     rw [made_bls] at hmk2
     have HMK := hmk w1
     have HMK2 := hmk2 (w1.alloc (.cells (ints (List.replicate n 0)).toArray 2))
     simp only [World.size_alloc] at HMK2
     clear hmk hmk2
     go_wp2_with fail
     clear HMK HMK2
     have hst1 : ((w1.alloc (.cells (ints (List.replicate n 0)).toArray 2)).alloc (.cells (bls (List.replicate n false)).toArray 4)).heap[w1.heap.size]? = some (.cells (ints (paidTo its a d 0)).toArray 2 (0, 0)) := by
      rw [paidTo_zero, HN.out]; exact blk_alloc (blk_new _ _ rfl) _
     have hst2 : ((w1.alloc (.cells (ints (List.replicate n 0)).toArray 2)).alloc (.cells (bls (List.replicate n false)).toArray 4)).heap[w1.heap.size + 1]? = some (.cells (bls (doneTo d n 0)).toArray 4 (0, 0)) := by
      rw [doneTo_zero]; exact blk_new _ _ (by simp)
     have HST1 := hyd hst1; have HST2 := hyd hst2
     have HL0 := hyd (leftTo_zero (its := its) (amount := a) (d := d) ha1)
     have HK0 : Hid (Keeps2 w1.heap.size (w1.heap.size + 1) w1 ((w1.alloc (.cells (ints (List.replicate n 0)).toArray 2)).alloc (.cells (bls (List.replicate n false)).toArray 4))) := hyd (((Keeps2.refl _ _ _).alloc _).alloc _)
     clear hst1 hst2
     obtain ⟨go, hgo⟩ : ∃ go, go = w1.heap.size := ⟨_, rfl⟩
     obtain ⟨gd, hgd⟩ : ∃ gd, gd = w1.heap.size + 1 := ⟨_, rfl⟩
     generalize (w1.alloc (.cells (ints (List.replicate n 0)).toArray 2)).alloc (.cells (bls (List.replicate n false)).toArray 4) = W2 at *
     rw [← hgd] at HST2 HK0 ⊢
     rw [← hgo] at HST1 HK0 ⊢
     have hne1 : go ≠ gd := by omega
     have hne2 : gd ≠ go := by omega
     have hgow : w1.heap.size ≤ go := by omega
     have hgdw : w1.heap.size ≤ gd := by omega
     clear hgo hgd
     go_loopg [1, 10] n (fun gh va vi wr => ∃ j : Nat, gh = n - j ∧ j ≤ n ∧ vi = .int .i64 j ∧ va = .int .i64 (leftTo its a d j) ∧ wr.heap[go]? = some (.cells (ints (paidTo its a d j)).toArray 2 (0, 0)) ∧ wr.heap[gd]? = some (.cells (bls (doneTo d n j)).toArray 4 (0, 0)) ∧ Keeps2 go gd w1 wr)
     case atStart => exact ⟨0, rfl, by omega, rfl, by rw [HL0.out], HST1.out, HST2.out, HK0.out⟩
     case round =>
      obtain ⟨j, hgj, hj, rfl, rfl, hbo, hbd, hk⟩ := hrel
      have HGJ := hyd hgj; have HBO := hyd hbo; have HBD := hyd hbd; have HK := hyd hk
      clear hgj hbo hbd hk
      by_cases hlt : j < n
      · have hjd : j < d.length := by have := HDL.out; omega
        go_wp2_with fail
        go_loopg [11, 12] n (fun gh vf vi wx => ∃ (i : Nat) (b : Int), gh = n - i ∧ i ≤ n ∧ vi = .int .i64 i ∧ vf = .int .i64 b ∧ First its d j i b ∧ (b = -1 ∨ 0 ≤ b ∧ b < n) ∧ Below wr.heap.size wr wx)
        case atStart => exact ⟨0, -1, rfl, by omega, rfl, rfl, First.start its d j, .inl rfl, Below.refl _ _⟩
        case round =>
         obtain ⟨i, b, hgi, hi, rfl, rfl, hfi, hb01, hbx⟩ := hrel
         have HGI := hyd hgi; have HFI := hyd hfi; have HB01 := hyd hb01; have HX := hyd hbx
         have HBOX := hyd (blk_below HBO.out hbx (blk_lt HBO.out)); have HBDX := hyd (blk_below HBD.out hbx (blk_lt HBD.out))
         have HKX := hyd (HK.out.up hbx)
         have hzx := hbx.size
         clear hgi hfi hb01 hbx
         by_cases hil : i < n
         · have hil' : i < its.length := by have := HN.out; omega
           obtain ⟨bi, oi, rfl, hbi, x0, x1, x2, x3⟩ := HR1.out.it hil'
           have cd := blk_cell HBDX.out i
           rw [List.getElem?_toArray, bls_at _ _ (by rw [doneTo_len]; exact hil), doneTo_at _ _ _ _ hil] at cd
           have j1 : (0 : Int) ≤ (i : Int) := by omega
           have j2 : (i : Int) < (n : Int) := by omega
           by_cases hmk : (i : Int) ∈ d.take j
           · have HF2 := hyd (HFI.out.marked hmk)
             rw [decide_eq_true hmk] at cd
             clear hmk x0 x1 x2 x3
             go_wp2_with fail
             go_quiet (fail)
             clear cd
             go_wp2_with fail
             go_roundg (n - (i + 1))
             case measure => have := HGI.out; omega
             case rel => exact ⟨i + 1, b, rfl, by omega, by go_num, rfl, HF2.out, HB01.out, below_drewN HX.out _⟩
           · rw [decide_eq_false hmk] at cd
             have HMK := hyd hmk; clear hmk
             rcases HB01.out with hb | ⟨hb1, hb2⟩
             · have HF2 := hyd (HFI.out.fresh HMK.out (.inl (by omega)))
               have hbneg : b < 0 := by omega
               clear hb x0 x1 x2 x3
               go_wp2_with fail
               go_quiet (fail)
               clear cd
               go_wp2_with fail
               go_roundg (n - (i + 1))
               case measure => have := HGI.out; omega
               case rel => exact ⟨i + 1, i, rfl, by omega, by go_num, rfl, HF2.out, .inr ⟨by omega, by omega⟩, below_drewN HX.out _⟩
             · obtain ⟨q, rfl⟩ := Int.eq_ofNat_of_zero_le hb1
               have hq : q < its.length := by have := HN.out; omega
               obtain ⟨y0, y1, y2, y3⟩ := HR1.out.it2 hq
               have hcw : ∀ o, wr.cell? ⟨bi, o, none⟩ = w1.cell? ⟨bi, o, none⟩ := fun o => HKX.out.cell (by omega) (by omega) (by omega)
               replace x0 := (hcw _).trans x0; replace x1 := (hcw _).trans x1; replace x2 := (hcw _).trans x2; replace x3 := (hcw _).trans x3
               replace y0 := (hcw _).trans y0; replace y1 := (hcw _).trans y1; replace y2 := (hcw _).trans y2; replace y3 := (hcw _).trans y3
               have HKY := hyd (aheadI_key (List.all_eq_true.1 HOK.out its[i] (List.getElem_mem _)) (List.all_eq_true.1 HOK.out its[q] (List.getElem_mem _)))
               have HFR : Hid (keyI its[i] < keyI its[q] → First its d j (i + 1) (i : Int)) := hyd (fun h => HFI.out.fresh HMK.out (.inr (by rw [Int.toNat_natCast, getD_it hil', getD_it hq]; exact h)))
               have HSTY : Hid (¬ keyI its[i] < keyI its[q] → First its d j (i + 1) (q : Int)) := hyd (fun h => HFI.out.stays HND.out hil' (by omega) (by rw [Int.toNat_natCast, getD_it hil', getD_it hq]; exact h))
               generalize its[i] = x at *
               generalize its[q] = y at *
               obtain ⟨t, ht⟩ : ∃ t, aheadI x y = t := ⟨_, rfl⟩
               have HT := hyd ht
               rw [ht] at HKY
               clear ht hcw
               have j3 : (0 : Int) ≤ (q : Int) := by omega
               have j4 : (q : Int) < (n : Int) := by omega
               have hqd : decide ((q : Int) < 0) = false := decide_eq_false (by omega)
               have g3 : bi < wr.heap.size := World.block_lt_of_cell? _ _ x0
               have g4 : gd < wr.heap.size := World.block_lt_of_cell? _ _ cd
               go_wp2_with fail
               go_region_held3 (fun w' => w'.cell? ⟨gd, i, none⟩ = some (.bool false) ∧ w'.cell? ⟨bi, oi + i * 4, none⟩ = some (.int .i64 x.due) ∧ w'.cell? ⟨bi, oi + i * 4 + 1, none⟩ = some (.int .i64 x.kind) ∧ w'.cell? ⟨bi, oi + i * 4 + 2, none⟩ = some (.int .i64 x.per) ∧ w'.cell? ⟨bi, oi + i * 4 + 3, none⟩ = some (.int .i64 x.opn) ∧
                 w'.cell? ⟨bi, oi + q * 4, none⟩ = some (.int .i64 y.due) ∧ w'.cell? ⟨bi, oi + q * 4 + 1, none⟩ = some (.int .i64 y.kind) ∧ w'.cell? ⟨bi, oi + q * 4 + 2, none⟩ = some (.int .i64 y.per) ∧ w'.cell? ⟨bi, oi + q * 4 + 3, none⟩ = some (.int .i64 y.opn))
                ((first | (with_reducible exact ⟨cd, x0, x1, x2, x3, y0, y1, y2, y3⟩) | exact ⟨cd, x0, x1, x2, x3, y0, y1, y2, y3⟩ | exact ⟨(hcB _ g4).trans cd, (hcB _ g3).trans x0, (hcB _ g3).trans x1, (hcB _ g3).trans x2, (hcB _ g3).trans x3, (hcB _ g3).trans y0, (hcB _ g3).trans y1, (hcB _ g3).trans y2, (hcB _ g3).trans y3⟩))
                ((go_at_call 21; refine (ahead_any x y wr.drew).mono ?_; rintro e w2 ⟨rfl, hw2⟩; have hcB := fun (a : Addr) (hp : a.block < wr.heap.size) => hw2.cell hp; have HW2 := hyd hw2; clear hw2; rw [HT.out]))
               have HB3 := hyd (HX.out.trans (((Below.refl _ _).drew.trans HW2.out).mono hzx))
               clear hcB cd x0 x1 x2 x3 y0 y1 y2 y3 hqd
               cases t with
               | true =>
                 have HF2 := hyd (HFR.out (by have := of_decide_eq_true HKY.out.symm; omega))
                 go_wp2_with fail
                 go_roundg (n - (i + 1))
                 case measure => have := HGI.out; omega
                 case rel => exact ⟨i + 1, i, rfl, by omega, by go_num, rfl, HF2.out, .inr ⟨by omega, by omega⟩, HB3.out⟩
               | false =>
                 have HF2 := hyd (HSTY.out (by have := of_decide_eq_false HKY.out.symm; omega))
                 go_wp2_with fail
                 go_roundg (n - (i + 1))
                 case measure => have := HGI.out; omega
                 case rel => exact ⟨i + 1, q, rfl, by omega, by go_num, rfl, HF2.out, .inr ⟨by omega, by omega⟩, HB3.out⟩
         · have hin : i = n := by omega
           subst hin
           obtain ⟨p, ep, hp⟩ := HPD.out.at hjd
           have hbd : b = (p : Int) := by
            have h := HFI.out
            rw [← HN.out] at h
            exact (h.is HPD.out HRI.out hjd).trans ep
           subst hbd
           obtain ⟨bi, oi, rfl, hbi, x0, x1, x2, x3⟩ := HR1.out.it hp
           have cx : wr.cell? ⟨bi, oi + p * 4 + 3, none⟩ = some (.int .i64 its[p].opn) := (HKX.out.cell (by omega) (by omega) (by omega)).trans x3
           obtain ⟨s1, s2⟩ := pay_step (amount := a) HOK.out HPD.out HRI.out hjd ep hp
           have hbx := okI_yes (List.all_eq_true.1 HOK.out its[p] (List.getElem_mem _))
           have hlb := leftTo_bd (d := d) HOK.out HPD.out ha1 j
           obtain ⟨m, hm'⟩ : ∃ m, paidI its a its[p] = m := ⟨_, rfl⟩
           have hst := paidTo_step (amount := a) hjd ep hp
           have hsd := doneTo_step (n := i) hjd ep (by have := HN.out; omega)
           rw [hm'] at s1 hst
           rw [← s1] at s2
           have hpn : p < i := by have := HN.out; omega
           have hao : wr.cell? ⟨go, p, none⟩ = some (.int .i64 ((paidTo its a d j)[p]'(by rw [paidTo_len]; exact hp))) := by
            rw [blk_cell HBOX.out, List.getElem?_toArray, ints_at _ _ (by rw [paidTo_len]; exact hp)]
           have hfo : wr.frozen? ⟨go, p, none⟩ = false := blk_free HBOX.out p
           have had : wr.cell? ⟨gd, p, none⟩ = some (.bool ((doneTo d i j)[p]'(by rw [doneTo_len]; exact hpn))) := by
            rw [blk_cell HBDX.out, List.getElem?_toArray, bls_at _ _ (by rw [doneTo_len]; exact hpn)]
           have hfd : wr.frozen? ⟨gd, p, none⟩ = false := blk_free HBDX.out p
           generalize (paidTo its a d j)[p]'(by rw [paidTo_len]; exact hp) = old at hao
           generalize (doneTo d i j)[p]'(by rw [doneTo_len]; exact hpn) = old2 at had
           have HST := hyd hst; have HS2 := hyd s2; have HSD := hyd hsd
           have HS1 := hyd s1
           have hopn : 0 ≤ its[p].opn ∧ its[p].opn ≤ 4611686018427387904 := by omega
           have hla : 0 ≤ leftTo its a d j ∧ leftTo its a d j ≤ 4611686018427387904 := ⟨hlb.1, by have := hlb.2; omega⟩
           generalize its[p].opn = o at *
           generalize leftTo its a d j = am at *
           clear x0 x1 x2 x3 ep hbx hlb hm' hst s1 s2 hsd
           obtain ⟨o1, o2⟩ := hopn
           obtain ⟨l1, l2⟩ := hla
           have i1 : (0 : Int) ≤ (p : Int) := by omega
           have i2 : (p : Int) < (i : Int) := by omega
           go_wp2_with fail
           go_roundg (i - (j + 1))
           case measure => have := HGJ.out; omega
           case rel =>
            refine ⟨j + 1, rfl, by omega, by go_num, by rw [HS2.out, HS1.out], ?_, ?_, (HKX.out.set1 _ _).set2 _ _⟩
            · rw [HST.out, HS1.out, ← ints_set']; exact blk_far (p := ⟨gd, p, none⟩) (blk_set HBOX.out p _) hne1 _
            · rw [HSD.out, ← bls_set]; exact blk_set (blk_far (p := ⟨go, p, none⟩) HBDX.out hne2 _) p _
      · have hjn : j = n := by omega
        subst hjn
        have HL : Hid (leftTo its a d j = leftI its a) := hyd (by have := leftTo_all (amount := a) HPD.out; rwa [HDL.out] at this)
        have HF : Hid (paidTo its a d j = payL its a) := hyd (by have := paidTo_all (amount := a) HPD.out; rwa [HDL.out] at this)
        have HLEN : Hid ((ints (paidTo its a d j)).length = j) := hyd (by rw [ints_len, paidTo_len]; exact HN.out)
        go_wp2_with fail
        go_ret3
        refine ⟨HK.out.below HB1.out (by omega) (by omega) (Nat.le_refl _), .inr ⟨by rw [HP.out]; exact HE.out, some ⟨go, 0, none⟩, j, by rw [HL.out, HN.out]; rfl, ?_, by rw [HN.out]; exact Nat.le_refl _⟩⟩
        rw [← HF.out, HN.out]
        exact ⟨by rw [HLEN.out]; omega, fun _ => ⟨go, 0, rfl, blk_lt HBO.out, fun q hq => by rw [Nat.zero_add]; exact (blk_cell HBO.out q).trans (by simp)⟩⟩
   · rw [he]
     have HE := hyd he; clear he
     go_wp2_with fail
     go_ret3
     exact ⟨HB1.out, .inl ⟨by rw [HP.out, HE.out]; decide, by rw [HP.out, HE.out]; rfl⟩⟩
   · rw [he]
     have HE := hyd he; clear he
     go_wp2_with fail
     go_ret3
     exact ⟨HB1.out, .inl ⟨by rw [HP.out, HE.out]; decide, by rw [HP.out, HE.out]; rfl⟩⟩
 · have HP : Hid (payE its a = 1) := hyd (if_neg ha)
   by_cases h0 : a < 0
   · clear ha
     go_enter Tryz.func164, Tryz.ntmps164
     go_wp2_with fail
     go_ret3
     exact ⟨bly, .inl ⟨by rw [HP.out]; decide, by rw [HP.out]; rfl⟩⟩
   · have h1 : 4611686018427387904 < a := by omega
     clear ha
     go_enter Tryz.func164, Tryz.ntmps164
     go_wp2_with fail
     go_ret3
     exact ⟨bly, .inl ⟨by rw [HP.out]; decide, by rw [HP.out]; rfl⟩⟩
def OrderOf (its : List Dq) (w : World) (e : Ending) (w' : World) : Prop := Below w.heap.size w w' ∧
 ((placesE its ≠ 0 ∧ e = .returned (.tuple #[.slice none 0 0, .int .i64 (placesE its)])) ∨
  (placesE its = 0 ∧ ∃ A' c' s, e = .returned (.tuple #[.slice A' its.length c', .int .i64 0]) ∧ Rd w' w'.heap.size 4 A' its.length (itCs s) ∧ IsOrd its s ∧ its.length ≤ c'))
def zeroI : Dq := ⟨0, 0, 0, 0⟩
def filled (its : List Dq) (d : List Int) (i : Nat) : List Dq := d.map fun j => if j < (i : Int) then its.getD j.toNat zeroI else zeroI
theorem filled_len (its : List Dq) (d : List Int) (i : Nat) : (filled its d i).length = d.length := by simp [filled]
theorem filled_zero {its : List Dq} {d : List Int} (h : Pl its.length d) : filled its d 0 = List.replicate its.length zeroI := by
 apply List.ext_getElem (by simp [filled, h.len])
 intro t h1 h2
 obtain ⟨j, ej, hj⟩ := h.at (k := t) (by rw [filled_len] at h1; exact h1)
 simp only [filled, List.getElem_map, List.getElem_replicate, ej]
 rw [if_neg (by omega)]
theorem filled_all {its : List Dq} {d : List Int} (h : Pl its.length d) : filled its d its.length = inOrd its d := by
 unfold filled inOrd
 apply List.map_congr_left
 intro j hj
 obtain ⟨t, ht, rfl⟩ := List.mem_iff_getElem.1 hj
 obtain ⟨p, ep, hp⟩ := h.at ht
 rw [if_pos (by rw [ep]; omega)]; rfl
theorem filled_step {its : List Dq} {d : List Int} (h : Pl its.length d) {i t : Nat} (ht : t < d.length) (e : d[t] = (i : Int)) (hi : i < its.length) : filled its d (i + 1) = (filled its d i).set t its[i] := by
 apply List.ext_getElem (by simp [filled])
 intro s h1 h2
 rw [List.getElem_set]
 have hs : s < d.length := by rw [filled_len] at h1; exact h1
 simp only [filled, List.getElem_map]
 by_cases e2 : t = s
 · subst e2
   rw [if_pos rfl, if_pos (by rw [e]; omega), e]; simp [hi]
 · rw [if_neg e2]
   have hne : d[s] ≠ (i : Int) := by
    intro e3
    rcases Nat.lt_or_gt_of_ne e2 with h3 | h3
    · exact List.pairwise_iff_getElem.1 h.nodup t s ht hs h3 (by rw [e, e3])
    · exact List.pairwise_iff_getElem.1 h.nodup s t hs ht h3 (by rw [e, e3])
   by_cases h4 : d[s] < (i : Int)
   · rw [if_pos (by omega), if_pos h4]
   · rw [if_neg (by omega), if_neg h4]
theorem itCs_set4 (l : List Dq) (k : Nat) (h : k < l.length) (x : Dq) : ((((itCs l).set (k * 4) (.int .i64 x.due)).set (k * 4 + 1) (.int .i64 x.kind)).set (k * 4 + 2) (.int .i64 x.per)).set (k * 4 + 3) (.int .i64 x.opn) = itCs (l.set k x) := by
 induction l generalizing k with
 | nil => simp at h
 | cons y l ih =>
   have h1 : itCs (y :: l) = itC y ++ itCs l := List.flatMap_cons
   cases k with
   | zero =>
     rw [h1, List.set_cons_zero]
     have h2 : itCs (x :: l) = itC x ++ itCs l := List.flatMap_cons
     rw [h2]
     simp [itC]
   | succ k =>
     have hk : k < l.length := by simpa using h
     rw [h1, List.set_cons_succ]
     have h2 : itCs (y :: l.set k x) = itC y ++ itCs (l.set k x) := List.flatMap_cons
     have h3 : (itC y).length = 4 := rfl
     rw [h2, ← ih k hk]
     rw [List.set_append_right _ _ (by rw [h3]; omega), List.set_append_right _ _ (by rw [h3]; omega), List.set_append_right _ _ (by rw [h3]; omega), List.set_append_right _ _ (by rw [h3]; omega), h3]
     rw [show (k + 1) * 4 - 4 = k * 4 by omega, show (k + 1) * 4 + 1 - 4 = k * 4 + 1 by omega, show (k + 1) * 4 + 2 - 4 = k * 4 + 2 by omega, show (k + 1) * 4 + 3 - 4 = k * 4 + 3 by omega]
theorem made_its (n : Nat) : (madeCells (Value.agg #[.int .i64 0, .int .i64 0, .int .i64 0, .int .i64 0]).cells (n * 4)).toList = itCs (List.replicate n zeroI) := by
 have hc : (Value.agg #[.int .i64 0, .int .i64 0, .int .i64 0, .int .i64 0]).cells = #[.int .i64 0, .int .i64 0, .int .i64 0, .int .i64 0] := rfl
 have hz : ∀ j, j < n * 4 → (itCs (List.replicate n zeroI))[j]? = some (.int .i64 0) := by
  intro j hj
  obtain ⟨c0, c1, c2, c3⟩ := itCs_at (List.replicate n zeroI) (j / 4) (by simp; omega)
  simp only [List.getElem_replicate, zeroI] at c0 c1 c2 c3
  rcases (show j = j / 4 * 4 ∨ j = j / 4 * 4 + 1 ∨ j = j / 4 * 4 + 2 ∨ j = j / 4 * 4 + 3 by omega) with h | h | h | h
  · rw [h]; exact c0
  · rw [h]; exact c1
  · rw [h]; exact c2
  · rw [h]; exact c3
 rw [hc]
 apply List.ext_getElem?
 intro j
 unfold madeCells
 by_cases hj : j < n * 4
 · rw [hz j hj]
   have : j % 4 = 0 ∨ j % 4 = 1 ∨ j % 4 = 2 ∨ j % 4 = 3 := by omega
   rcases this with h | h | h | h <;> simp [hj, h]
 · rw [List.getElem?_eq_none (by simp; omega), List.getElem?_eq_none (by rw [itCs_len]; simp; omega)]
def rank (its : List Dq) (x : Dq) (k : Nat) : Nat := (its.take k).countP fun y => decide (keyI y < keyI x)
theorem rank_succ (its : List Dq) (x : Dq) (k : Nat) (h : k < its.length) : rank its x (k + 1) = rank its x k + if keyI its[k] < keyI x then 1 else 0 := by
 unfold rank
 rw [List.take_succ_eq_append_getElem h, List.countP_append]
 simp [List.countP_cons]
theorem rank_le (its : List Dq) (x : Dq) (k : Nat) : rank its x k ≤ k := by
 unfold rank
 exact Nat.le_trans (List.countP_le_length) (List.length_take_le _ _)
theorem orderRef_any (A : Option Addr) (its : List Dq) (n c : Nat) (w : World) (hn : its.length = n) (hr : Rd w w.heap.size 4 A n (itCs its)) (hm : n ≤ maxLen) :
  Calls Tryz.prog 130 #[.slice A n c] w (OrderOf its w) := by
 unfold maxLen at hm
 obtain ⟨i0, hi, hz0, hz1', hz9⟩ := info_parts info_it
 have hp := right17_any A its c w (by unfold ItR; rw [hn]; exact hr) (by unfold maxLen; omega)
 rw [hn] at hp
 have HN := hyd hn; have HR := hyd hr; have HP := hyd hp
 clear hn hr hp
 go_enter Tryz.func130, Tryz.ntmps130
 go_wp2_with fail
 refine HP.out.mono ?_
 rintro e w1 ⟨rfl, hb1⟩
 have HB1 := hyd hb1
 have hz1 := hb1.size
 have HR1 := hyd (HR.out.below hb1)
 clear hb1 HP
 rcases placesE_cases its with he | he | he
 · have HE := hyd he
   have h200 : n ≤ 200 := by have := (placesE_ok he).1; have := HN.out; omega
   obtain ⟨_, hok, hnd⟩ := placesE_ok he
   obtain ⟨d, hpd, hri⟩ := rise_ex hnd
   have HOK := hyd hok; have HPD := hyd hpd; have HRI := hyd hri
   have HDL : Hid (d.length = n) := hyd (by rw [hpd.len]; exact HN.out)
   have HF0 : Hid (itCs (filled its d 0) = (madeCells (Value.agg #[.int .i64 0, .int .i64 0, .int .i64 0, .int .i64 0]).cells (n * 4)).toList) := hyd (by rw [made_its, filled_zero hpd, HN.out])
   rw [he]
   clear he hok hnd hpd hri
   go_wp2_with (at_make; refine wpList_make_full _ rfl _ _ 41 rfl w1.heap.size 58 i0 _ 4 Tryz.underlying41 hi hz0 hz1' .i64 .i64 _ _ n rfl rfl (by first | rfl | omega) (by first | rfl | omega) (by rw [hz9]; omega) (by unfold maxLen; omega) (Nat.le_refl _) ?_; intro w2 hown2 hg2)
   have HB2 : Hid (Below w1.heap.size w1 w2) := hyd ((Below.refl _ _).grown hg2 (Nat.le_refl _) (fun k hk => by cases hk))
   have HO2 : Hid (w2.ownsRow w1.heap.size 58 4 (.slice (some ⟨w1.heap.size, 0, none⟩) n n) n (itCs (filled its d 0))) := hyd (by rw [HF0.out]; exact hown2)
   clear hown2 hg2 HF0
   go_wp2_with fail
   go_loopg [6] n (fun gh vi wr => ∃ i : Nat, gh = n - i ∧ i ≤ n ∧ vi = .int .i64 i ∧ wr.ownsRow w1.heap.size 58 4 (.slice (some ⟨w1.heap.size, 0, none⟩) n n) n (itCs (filled its d i)) ∧ Below w1.heap.size w1 wr)
   case atStart => exact ⟨0, rfl, by omega, rfl, HO2.out, HB2.out⟩
   case round =>
    obtain ⟨i, hgi, hi', rfl, hown, hbr⟩ := hrel
    have HGI := hyd hgi; have HO := hyd hown; have HB := hyd hbr
    clear hgi hown hbr
    by_cases hlt : i < n
    · have hil : i < its.length := by have := HN.out; omega
      go_wp2_with fail
      go_loopg [7, 8] n (fun gh va vk wx => ∃ k : Nat, gh = n - k ∧ k ≤ n ∧ vk = .int .i64 k ∧ va = .int .i64 (rank its its[i] k) ∧ Below wr.heap.size wr wx)
      case atStart => exact ⟨0, rfl, by omega, rfl, rfl, Below.refl _ _⟩
      case round =>
       obtain ⟨k, hgk, hk, rfl, rfl, hbx⟩ := hrel
       have HGK := hyd hgk; have HX := hyd hbx
       have hzx := hbx.size
       have hle := rank_le its its[i] k
       clear hgk hbx
       by_cases hlk : k < n
       · have hkl : k < its.length := by have := HN.out; omega
         obtain ⟨b, off, rfl, hb, x0, x1, x2, x3⟩ := ((HR1.out.below (HB.out.mono hz1)).below (HX.out.mono (by have := HB.out.size; omega))).it hkl
         obtain ⟨y0, y1, y2, y3⟩ := ((HR1.out.below (HB.out.mono hz1)).below (HX.out.mono (by have := HB.out.size; omega))).it2 hil
         have HAK := hyd (aheadI_key (List.all_eq_true.1 HOK.out _ (List.getElem_mem hkl)) (List.all_eq_true.1 HOK.out _ (List.getElem_mem hil)))
         have HRS := hyd (rank_succ its its[i] k hkl)
         generalize rank its its[i] k = R at *
         generalize hR1 : rank its its[i] (k + 1) = R1 at *
         generalize its[k] = x at *
         generalize its[i] = y at *
         obtain ⟨t, ht⟩ : ∃ t, aheadI x y = t := ⟨_, rfl⟩
         have HT := hyd ht
         rw [ht] at HAK; clear ht
         have HR1' := hyd hR1; clear hR1
         have j1 : (0 : Int) ≤ (i : Int) := by omega
         have j2 : (i : Int) < (n : Int) := by omega
         have j3 : (0 : Int) ≤ (k : Int) := by omega
         have j4 : (k : Int) < (n : Int) := by omega
         have g3 : b < wr.heap.size := World.block_lt_of_cell? _ _ x0
         go_wp2_with fail
         go_region_held3 (fun w' => w'.cell? ⟨b, off + k * 4, none⟩ = some (.int .i64 x.due) ∧ w'.cell? ⟨b, off + k * 4 + 1, none⟩ = some (.int .i64 x.kind) ∧ w'.cell? ⟨b, off + k * 4 + 2, none⟩ = some (.int .i64 x.per) ∧ w'.cell? ⟨b, off + k * 4 + 3, none⟩ = some (.int .i64 x.opn) ∧
           w'.cell? ⟨b, off + i * 4, none⟩ = some (.int .i64 y.due) ∧ w'.cell? ⟨b, off + i * 4 + 1, none⟩ = some (.int .i64 y.kind) ∧ w'.cell? ⟨b, off + i * 4 + 2, none⟩ = some (.int .i64 y.per) ∧ w'.cell? ⟨b, off + i * 4 + 3, none⟩ = some (.int .i64 y.opn))
          ((first | (with_reducible exact ⟨x0, x1, x2, x3, y0, y1, y2, y3⟩) | exact ⟨x0, x1, x2, x3, y0, y1, y2, y3⟩ | exact ⟨(hcB _ g3).trans x0, (hcB _ g3).trans x1, (hcB _ g3).trans x2, (hcB _ g3).trans x3, (hcB _ g3).trans y0, (hcB _ g3).trans y1, (hcB _ g3).trans y2, (hcB _ g3).trans y3⟩))
          ((go_at_call 21; refine (ahead_any x y wr.drew).mono ?_; rintro e w3 ⟨rfl, hw3⟩; have hcB := fun (a : Addr) (hp : a.block < wr.heap.size) => hw3.cell hp; have HW3 := hyd hw3; clear hw3; rw [HT.out]))
         have HB3 := hyd (HX.out.trans (((Below.refl _ _).drew.trans HW3.out).mono hzx))
         clear hcB x0 x1 x2 x3 y0 y1 y2 y3
         cases t with
         | true =>
           have HRR : Hid (R1 = R + 1) := hyd (by rw [HRS.out, if_pos (of_decide_eq_true HAK.out.symm)])
           go_wp2_with fail
           go_roundg (n - (k + 1))
           case measure => have := HGK.out; omega
           case rel => exact ⟨k + 1, rfl, by omega, by go_num, by rw [HR1'.out, HRR.out]; go_num, HB3.out⟩
         | false =>
           have HRR : Hid (R1 = R) := hyd (by rw [HRS.out, if_neg (of_decide_eq_false HAK.out.symm)]; rfl)
           go_wp2_with fail
           go_roundg (n - (k + 1))
           case measure => have := HGK.out; omega
           case rel => exact ⟨k + 1, rfl, by omega, by go_num, by rw [HR1'.out, HRR.out], HB3.out⟩
       · have hkn : k = n := by omega
         subst hkn
         obtain ⟨t, ht, et⟩ := HPD.out.all hil
         have hrk : rank its its[i] k = t := by
          unfold rank
          rw [List.take_of_length_le (by rw [HN.out]; exact Nat.le_refl _)]
          exact rank_at HPD.out HRI.out ht et hil
         rw [hrk]
         have htn : t < k := by have := HDL.out; omega
         have HO3 := hyd (own_below HO.out HX.out)
         have hft : t < (filled its d i).length := by rw [filled_len]; exact ht
         obtain ⟨m0, m1, m2, m3⟩ := itCs_at (filled its d i) t hft
         obtain ⟨c0, f0⟩ := own_cell HO3.out m0
         obtain ⟨c1, f1⟩ := own_cell HO3.out m1
         obtain ⟨c2, f2⟩ := own_cell HO3.out m2
         obtain ⟨c3, f3⟩ := own_cell HO3.out m3
         obtain ⟨b, off, rfl, hb, x0, x1, x2, x3⟩ := ((HR1.out.below (HB.out.mono hz1)).below (HX.out.mono (by have := HB.out.size; omega))).it hil
         have HST : Hid (itCs (filled its d (i + 1)) = ((((itCs (filled its d i)).set (t * 4) (.int .i64 its[i].due)).set (t * 4 + 1) (.int .i64 its[i].kind)).set (t * 4 + 2) (.int .i64 its[i].per)).set (t * 4 + 3) (.int .i64 its[i].opn)) := hyd (by rw [itCs_set4 _ _ hft, ← filled_step HPD.out ht et hil])
         have HBX := hyd (HB.out.trans (HX.out.mono HB.out.size))
         generalize (filled its d i)[t] = old at *
         generalize its[i] = y at *
         clear m0 m1 m2 m3 et hrk hle
         have j1 : (0 : Int) ≤ (i : Int) := by omega
         have j2 : (i : Int) < (k : Int) := by omega
         have j3 : (0 : Int) ≤ (t : Int) := by omega
         have j4 : (t : Int) < (k : Int) := by omega
         have ne : b ≠ w1.heap.size := by omega
         go_wp2_with fail
         go_roundg (k - (i + 1))
         case measure => have := HGI.out; omega
         case rel =>
          refine ⟨i + 1, rfl, by omega, by go_num, ?_, ?_⟩
          · rw [HST.out]
            first
            | exact own_set (own_set (own_set (own_set HO3.out (by omega) _) (by omega) _) (by omega) _) (by omega) _
            | (have := own_set (own_set (own_set (own_set HO3.out (i := t * 4) (by omega) (.int .i64 y.due)) (i := t * 4 + 1) (by omega) (.int .i64 y.kind)) (i := t * 4 + 2) (by omega) (.int .i64 y.per)) (i := t * 4 + 3) (by omega) (.int .i64 y.opn); exact this)
          · exact (((HBX.out.setCell (p := ⟨w1.heap.size, t * 4, none⟩) (Nat.le_refl _) _).setCell (p := ⟨w1.heap.size, t * 4 + 1, none⟩) (Nat.le_refl _) _).setCell (p := ⟨w1.heap.size, t * 4 + 2, none⟩) (Nat.le_refl _) _).setCell (p := ⟨w1.heap.size, t * 4 + 3, none⟩) (Nat.le_refl _) _
    · have hin : i = n := by omega
      subst hin
      have hF : filled its d i = inOrd its d := by have := filled_all HPD.out; rwa [HN.out] at this
      have HRT := hyd (Rd.of_own HO.out)
      rw [hF] at HRT
      have HBF := hyd (HB1.out.trans (HB.out.mono hz1))
      clear hF
      go_wp2_with fail
      go_ret2
      refine ⟨HBF.out, .inr ⟨HE.out, some ⟨w1.heap.size, 0, none⟩, i, inOrd its d, by rw [HN.out]; rfl, by rw [HN.out]; exact HRT.out, IsOrd.of HPD.out HRI.out, by rw [HN.out]; exact Nat.le_refl _⟩⟩
 · rw [he]
   have HE := hyd he; clear he
   go_wp2_with fail
   go_ret2
   exact ⟨HB1.out, .inl ⟨by rw [HE.out]; decide, by rw [HE.out]; rfl⟩⟩
 · rw [he]
   have HE := hyd he; clear he
   go_wp2_with fail
   go_ret2
   exact ⟨HB1.out, .inl ⟨by rw [HE.out]; decide, by rw [HE.out]; rfl⟩⟩
end Go.Proofs.YtbjjgnaojoaoiaaGreat
