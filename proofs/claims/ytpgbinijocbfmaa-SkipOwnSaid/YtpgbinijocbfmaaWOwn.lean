/- The walk of SkipOwn. -/
import Derived.Test.YtpgbinijocbfmaaP14
import Derived.Test.YtpgbinijocbfmaaN3
namespace Go.Proofs.Ytpgbinijocbfmaa
open Go.RowKit Go
set_option linter.unusedVariables false
set_option linter.unusedSimpArgs false

set_option maxHeartbeats 30000000 in
set_option maxRecDepth 100000 in
theorem skipOwn_walk (A : Option Addr) (its : List It) (c : Nat) (Ak : Option Addr) (ck : Nat) (Av : Option Addr) (cv : Nat) (r : Rc) (draw : Int) (w : World) (h : ItemsAt w A its) (hit : its.length * 72 ≤ 140737488351232) (hlk : r.key.length ≤ 140737488351232) (hlv : r.val.length ≤ 140737488351232)
    (hx : It.ok w ⟨.slice Ak r.key.length ck, .slice Av r.val.length cv, r, draw⟩) :
    Calls Try.prog 5 #[.slice A its.length c, .agg #[.slice Ak r.key.length ck, .int .i64 r.seq, .bool r.del, .slice Av r.val.length cv, .int .i64 draw]] w fun e w' => e = .returned (.bool true) ∧ Below w.heap.size w w' := by
  have HI := Lib.hid h; have HX := Lib.hid hx; have HLK := Lib.hid hlk; have HLV := Lib.hid hlv; clear h hx hlk hlv
  go_enter Try.func5, Try.ntmps5
  go_wp2_with fail
  refine (awake_any _).mono ?_; rintro e w1 ⟨rfl, hw1⟩
  have hbox : w1.heap[w.heap.size]? = some (.cells #[.slice Ak r.key.length ck, .int .i64 r.seq, .bool r.del, .slice Av r.val.length cv, .int .i64 draw] 37 (0, 0)) := blk_below (blk_new _ _ rfl) hw1 (by simp)
  have hW1 : Below w.heap.size w w1 := ((Below.refl _ _).alloc (Nat.le_refl _) _).trans (hw1.mono (by simp))
  have HB := Lib.hid hbox; have HW1 := Lib.hid hW1
  clear hw1 hbox hW1
  obtain ⟨c0, c1, c2, c3, c4⟩ := cells5 HB.out
  have hlt0 := blk_lt HB.out
  have H1c : Hid (∀ u ∈ itCells its, u.oneCell' = true) := it_one HI.out.2
  have HX1 : Hid (∀ u ∈ It.cells ⟨.slice Ak r.key.length ck, .slice Av r.val.length cv, r, draw⟩, u.oneCell' = true) := by intro u hu; simp [It.cells] at hu; rcases hu with rfl | rfl | rfl | rfl | rfl <;> rfl
  obtain ⟨i0, hi, hz0, hz1, hz2⟩ := info_parts item_info
  have hi' := Lib.hid hi; clear hi
  go_upto_region 2 with fail
  go_cut [6] from 19 to 26 (fun v6 wc => ∃ m, v6 = .bool m ∧ Below w1.heap.size w1 wc ∧ (m = false → its.length < 1000))
  case first =>
    go_region_law (first
      | (refine step_app rfl (.tmp 20) (.tmp 21) 22 rfl w1.heap.size 37 i0 _ 5 72 Try.underlying22 hi'.out hz0 hz1 hz2 rfl (by omega) (.slice (some ⟨_, 0, none⟩) 0 0) 0 [] rfl
          (own_e (by first | exact blk_new w1 (.cells #[] 37) rfl | exact blk_alloc (blk_new w1 (.cells #[] 37) rfl) _ | exact blk_new (w1.alloc _) (.cells #[] 37) (by simp)) (by simp)) _ A its.length c (itCells its) rfl (HI.out.up (HW1.out.trans (Below.mono (w := w1) (by repeat' (first | (with_reducible exact Below.refl _ _) | (with_reducible refine Below.alloc ?_ ?_ _) | (with_reducible refine below_drewN ?_ _) | (with_reducible refine Below.drew ?_) | (with_reducible refine Below.setCell ?_ ?_ _) | (with_reducible refine Below.trans ?_ (Below.mono HW0.out ?_)) | (with_reducible refine Below.trans ?_ (Below.mono HW1.out ?_)) | (with_reducible refine Below.trans ?_ (Below.mono HW2.out ?_)) | (with_reducible refine Below.trans ?_ (Below.mono HW3.out ?_)) | (with_reducible refine Below.trans ?_ (Below.mono HW4.out ?_)) | (with_reducible refine Below.trans ?_ (Below.mono HW5.out ?_)) | (with_reducible refine Below.trans ?_ (Below.mono HW6.out ?_)) | (with_reducible refine Below.trans ?_ (Below.mono HW7.out ?_)) | (with_reducible exact Nat.le_refl _) | omega | (simp only [World.size_alloc, World.size_setCell, World.size_drew, size_drewN]; omega) | (simp; done) | (simp; omega))) HW1.out.size))).rd H1c.out (by unfold maxLen; omega) (by omega) (by simp <;> omega) ?_
         intro v' w' hO hgr hat
         rw [Nat.zero_add, List.nil_append] at hO
         have hB' := grow_e (w1 := w1) hgr (by repeat' (first | (with_reducible exact Below.refl _ _) | (with_reducible refine Below.alloc ?_ ?_ _) | (with_reducible refine below_drewN ?_ _) | (with_reducible refine Below.drew ?_) | (with_reducible refine Below.setCell ?_ ?_ _) | (with_reducible refine Below.trans ?_ (Below.mono HW0.out ?_)) | (with_reducible refine Below.trans ?_ (Below.mono HW1.out ?_)) | (with_reducible refine Below.trans ?_ (Below.mono HW2.out ?_)) | (with_reducible refine Below.trans ?_ (Below.mono HW3.out ?_)) | (with_reducible refine Below.trans ?_ (Below.mono HW4.out ?_)) | (with_reducible refine Below.trans ?_ (Below.mono HW5.out ?_)) | (with_reducible refine Below.trans ?_ (Below.mono HW6.out ?_)) | (with_reducible refine Below.trans ?_ (Below.mono HW7.out ?_)) | (with_reducible exact Nat.le_refl _) | omega | (simp only [World.size_alloc, World.size_setCell, World.size_drew, size_drewN]; omega) | (simp; done) | (simp; omega))) (by intro b e; injection e with e; rw [← e]; simp <;> omega)
         first
           | have hxb : w'.heap[w1.heap.size + 1]? = some (.cells #[.slice Ak r.key.length ck, .int .i64 r.seq, .bool r.del, .slice Av r.val.length cv, .int .i64 draw] 37 (0, 0)) := grow_x hgr (blk_new (w1.alloc (.cells #[] 37)) (.cells #[.slice Ak r.key.length ck, .int .i64 r.seq, .bool r.del, .slice Av r.val.length cv, .int .i64 draw] 37) (by simp)) (by simp [Value.ownBlock])
           | have hxb : w'.heap[w1.heap.size]? = some (.cells #[.slice Ak r.key.length ck, .int .i64 r.seq, .bool r.del, .slice Av r.val.length cv, .int .i64 draw] 37 (0, 0)) := grow_x hgr (blk_alloc (blk_new w1 (.cells #[.slice Ak r.key.length ck, .int .i64 r.seq, .bool r.del, .slice Av r.val.length cv, .int .i64 draw] 37) rfl) (.cells #[] 37)) (by simp [Value.ownBlock])
           | skip
         clear hgr hat
         obtain ⟨A', c', rfl, _⟩ := own_form hO
         obtain ⟨d0, d1, d2, d3, d4⟩ := cells5 (blk_below HB.out hB' (blk_lt HB.out)))
      | (refine step_app rfl (.tmp 22) (.tmp 24) 22 rfl w1.heap.size 37 i0 _ 5 72 Try.underlying22 hi'.out hz0 hz1 hz2 rfl (by omega) (.slice A' its.length c') its.length (itCells its) rfl
          (by first | exact hO | exact World.ownsRow.alloc (w := w') hO _) _ _ 1 1 (It.cells ⟨.slice Ak r.key.length ck, .slice Av r.val.length cv, r, draw⟩) rfl (by first | exact rd_x (blk_new w' (.cells #[.slice Ak r.key.length ck, .int .i64 r.seq, .bool r.del, .slice Av r.val.length cv, .int .i64 draw] 37) rfl) (Nat.lt_succ_self _) | exact rd_x hxb (Nat.lt_succ_self _)) HX1.out (by unfold maxLen; omega) (by omega) (by first | exact hB'.size | exact Nat.le_trans hB'.size (by simp)) ?_
         intro v2 w2 hO2 hgr2 hat2
         have hB2 := grow_e (w1 := w1) hgr2 (by first | exact hB' | exact hB'.trans (Below.mono (w := w') (by repeat' (first | (with_reducible exact Below.refl _ _) | (with_reducible refine Below.alloc ?_ ?_ _) | (with_reducible refine below_drewN ?_ _) | (with_reducible refine Below.drew ?_) | (with_reducible refine Below.setCell ?_ ?_ _) | (with_reducible refine Below.trans ?_ (Below.mono HW0.out ?_)) | (with_reducible refine Below.trans ?_ (Below.mono HW1.out ?_)) | (with_reducible refine Below.trans ?_ (Below.mono HW2.out ?_)) | (with_reducible refine Below.trans ?_ (Below.mono HW3.out ?_)) | (with_reducible refine Below.trans ?_ (Below.mono HW4.out ?_)) | (with_reducible refine Below.trans ?_ (Below.mono HW5.out ?_)) | (with_reducible refine Below.trans ?_ (Below.mono HW6.out ?_)) | (with_reducible refine Below.trans ?_ (Below.mono HW7.out ?_)) | (with_reducible exact Nat.le_refl _) | omega | (simp only [World.size_alloc, World.size_setCell, World.size_drew, size_drewN]; omega) | (simp; done) | (simp; omega))) hB'.size)) (own_row hO)
         clear hgr2 hat2
         obtain ⟨A2, c2', rfl, _⟩ := own_form hO2)
      | (go_simp
         go_at_call 8
         refine (much_n (by simp) (items_one hO2 rfl HI.out.2 HX.out (HW1.out.trans (hB2.mono HW1.out.size)))).mono ?_
         rintro e w3 ⟨m, rfl, hm, n3, rfl⟩))
    all_goals go_wp2_with fail
    all_goals go_meet
    all_goals exact ⟨m, rfl, below_drewN hB2 _, fun h => by have := hm h; omega⟩
  case rest =>
    obtain ⟨m, rfl, hwc, hm⟩ := hcut
    have hWc := HW1.out.trans (hwc.mono HW1.out.size)
    have hBc := blk_below HB.out hwc (blk_lt HB.out)
    have HWC := Lib.hid hWc; have HBC := Lib.hid hBc
    clear hwc hWc hBc
    clear HB HW1 c0 c1 c2 c3 c4 hlt0
    cases m with
    | true =>
      go_wp2_with fail
      go_ret
      exact ⟨rfl, HWC.out⟩
    | false =>
      have hN := hm rfl
      clear hm
      go_wp2_with fail
      refine (new_any _).mono ?_; rintro e w2 ⟨L, rfl, hs, hb⟩
      have HB0 := Lib.hid (One.start hs hb)
      clear hs hb
      unfold ptr
      obtain ⟨N, hN0⟩ : ∃ N, its.length = N := ⟨_, rfl⟩
      have HN := Lib.hid hN0
      rw [hN0] at hN ⊢
      clear hN0 hit
      go_wp2_with fail
      go_loopg [8] N (fun g vi wr => ∃ (k : Nat) (rs : List Rc) (high : Nat), g = N - k ∧ k ≤ N ∧ vi = .int .i64 k ∧ rs.length ≤ k ∧ One wc wr L rs high)
      case atStart => exact ⟨0, [], 0, rfl, by omega, rfl, by simp, HB0.out⟩
      case round =>
        obtain ⟨k, rs, high, hgk, hk, rfl, hrs, hBo⟩ := hrel
        have HG := Lib.hid hgk; have HBO := Lib.hid hBo; have HB := Lib.hid (HWC.out.trans (hBo.below.mono HWC.out.size))
        have HX2 := Lib.hid (blk_below HBC.out hBo.below (blk_lt HBC.out))
        clear hgk hBo
        by_cases hlt : k < N
        · have hlt' : k < its.length := by have := HN.out; omega
          obtain ⟨b, off, rfl, hb, _⟩ := HI.out.1 (by omega)
          obtain ⟨c0, c1, c2, c3, c4⟩ := item_at HI.out HB.out hlt'
          have hok := (HI.out.2 _ (List.getElem_mem hlt')).up HB.out
          have HCELL := fun w' (hw : Below w.heap.size w w') => item_at HI.out hw hlt'
          generalize its[k] = it at *
          have HC := Lib.hid HCELL; clear HCELL
          have HK := Lib.hid hok.1; have HV := Lib.hid hok.2.1
          have hdr := hok.2.2
          clear hok
          have i1 : (0 : Int) ≤ (k : Int) := by omega
          have i2 : (k : Int) < (N : Int) := by omega
          go_wp2_with fail
          go_region_held3 (fun w' => w'.cell? ⟨b, off + k * 5, none⟩ = some it.kv ∧ w'.cell? ⟨b, off + k * 5 + 1, none⟩ = some (.int .i64 it.r.seq) ∧ w'.cell? ⟨b, off + k * 5 + 2, none⟩ = some (.bool it.r.del) ∧ w'.cell? ⟨b, off + k * 5 + 3, none⟩ = some it.vv ∧ w'.cell? ⟨b, off + k * 5 + 4, none⟩ = some (.int .i64 it.draw))
            ((first | (with_reducible exact ⟨c0, c1, c2, c3, c4⟩) | exact ⟨c0, c1, c2, c3, c4⟩ | exact hcc))
            ((go_at_call 10; refine (one_put (HBO.out.below' (Below.refl _ _).drew) (by omega) it.kv it.vv it.r it.draw (HK.out.up (Below.refl _ _).drew) (HV.out.up (Below.refl _ _).drew) hdr).mono ?_; rintro e w3 ⟨x3, rs3, high3, rfl, hp, hH⟩; have hcc := HC.out _ (HWC.out.trans (hH.below.mono HWC.out.size)); have HP := Lib.hid hp; have HH := Lib.hid hH; clear hp hH))
          have hlen3 := (putS_inv HP.out HBO.out.right HBO.out.hh).2.1
          clear c0 c1 c2 c3 c4 hcc
          go_wp2_with fail
          go_roundg (N - (k + 1))
          case measure => have := HG.out; omega
          case rel => exact ⟨k + 1, rs3, high3, rfl, by omega, by go_num, by omega, by first | exact HH.out | exact HH.out.below' (Below.refl _ _).drew⟩
        · have hrn0 : rs.length ≤ 1000 := by omega
          have hrn : rs.length ≤ 1000000 := by omega
          clear HG hrs
          obtain ⟨c0, c1, c2, c3, c4⟩ := cells5 HX2.out
          have hlt0 := blk_lt HX2.out
          go_wp2_with fail
          refine (copy_refW (.slice Ak r.key.length ck) (.slice Av r.val.length cv) r _ ((HX.out.up HB.out).1.up (by repeat' (first | (with_reducible exact Below.refl _ _) | (with_reducible refine Below.alloc ?_ ?_ _) | (with_reducible refine below_drewN ?_ _) | (with_reducible refine Below.drew ?_) | (with_reducible refine Below.setCell ?_ ?_ _) | (with_reducible refine Below.trans ?_ (Below.mono HW0.out ?_)) | (with_reducible refine Below.trans ?_ (Below.mono HW1.out ?_)) | (with_reducible refine Below.trans ?_ (Below.mono HW2.out ?_)) | (with_reducible refine Below.trans ?_ (Below.mono HW3.out ?_)) | (with_reducible refine Below.trans ?_ (Below.mono HW4.out ?_)) | (with_reducible refine Below.trans ?_ (Below.mono HW5.out ?_)) | (with_reducible refine Below.trans ?_ (Below.mono HW6.out ?_)) | (with_reducible refine Below.trans ?_ (Below.mono HW7.out ?_)) | (with_reducible exact Nat.le_refl _) | omega | (simp only [World.size_alloc, World.size_setCell, World.size_drew, size_drewN]; omega) | (simp; done) | (simp; omega)))) ((HX.out.up HB.out).2.1.up (by repeat' (first | (with_reducible exact Below.refl _ _) | (with_reducible refine Below.alloc ?_ ?_ _) | (with_reducible refine below_drewN ?_ _) | (with_reducible refine Below.drew ?_) | (with_reducible refine Below.setCell ?_ ?_ _) | (with_reducible refine Below.trans ?_ (Below.mono HW0.out ?_)) | (with_reducible refine Below.trans ?_ (Below.mono HW1.out ?_)) | (with_reducible refine Below.trans ?_ (Below.mono HW2.out ?_)) | (with_reducible refine Below.trans ?_ (Below.mono HW3.out ?_)) | (with_reducible refine Below.trans ?_ (Below.mono HW4.out ?_)) | (with_reducible refine Below.trans ?_ (Below.mono HW5.out ?_)) | (with_reducible refine Below.trans ?_ (Below.mono HW6.out ?_)) | (with_reducible refine Below.trans ?_ (Below.mono HW7.out ?_)) | (with_reducible exact Nat.le_refl _) | omega | (simp only [World.size_alloc, World.size_setCell, World.size_drew, size_drewN]; omega) | (simp; done) | (simp; omega)))) HLK.out HLV.out).mono ?_
          rintro e w4 ⟨A5, c5, A6, c6, rfl, hm1, hm2, hw4⟩
          have H41 := Lib.hid hm1; have H42 := Lib.hid hm2; have HW4 := Lib.hid hw4
          clear hm1 hm2 hw4
          go_upto_region 11 with fail
          obtain ⟨W, hWe⟩ : ∃ W : World, W = w4.alloc (.cells #[.slice A5 r.key.length c5, .int .i64 r.seq, .bool r.del, .slice A6 r.val.length c6] 35) := ⟨_, rfl⟩
          rw [← hWe]
          have hb9 : W.heap[w4.heap.size]? = some (.cells #[.slice A5 r.key.length c5, .int .i64 r.seq, .bool r.del, .slice A6 r.val.length c6] 35 (0, 0)) := by rw [hWe]; exact blk_new _ _ rfl
          have hWW : Below wr.heap.size wr W := by rw [hWe]; exact HW4.out.alloc HW4.out.size _
          have h4W : Below w4.heap.size w4 W := by rw [hWe]; exact (Below.refl _ _).alloc (Nat.le_refl _) _
          have hs9 : wr.heap.size ≤ w4.heap.size ∧ w4.heap.size < W.heap.size := ⟨HW4.out.size, blk_lt hb9⟩
          have HWE := Lib.hid hWe; clear hWe
          have HB9 := Lib.hid hb9; have HWW := Lib.hid hWW; have H4W := Lib.hid h4W; have HS9 := Lib.hid hs9
          clear hb9 hWW h4W c0 c1 c2 c3 c4
          have M1 := Lib.hid (H41.out.laterW H4W.out); have M2 := Lib.hid (H42.out.laterW H4W.out)
          clear H41 H42
          obtain ⟨p0, p1, p2, p3, p4⟩ := cells4 HB9.out
          obtain ⟨c0, c1, c2, c3, c4, c5f⟩ := cells5 (blk_below HX2.out HWW.out (blk_lt HX2.out))
          clear c0 c1 c2 c3
          go_wp2_with fail
          refine (one_put_apart HBO.out HWW.out hrn (.slice A5 r.key.length c5) (.slice A6 r.val.length c6) r draw (M1.out.1.bs (fun b h => h.2)) (M2.out.1.bs (fun b h => h.2)) HX.out.2.2).mono ?_; rintro e w6 ⟨x6, rs6, high6, rfl, hp, hA, hk6, hsz6⟩
          have q9 := (hk6 w4.heap.size HS9.out.1 HS9.out.2).trans HB9.out
          have q3 := blk_below HBC.out hA.below (blk_lt HBC.out)
          have HP := Lib.hid hp; have HA := Lib.hid hA; have HK6 := Lib.hid hk6; have HSZ6 := Lib.hid hsz6; have HQ9 := Lib.hid q9; have HQ3 := Lib.hid q3
          have hx6 := (putS_inv hp HBO.out.right HBO.out.hh).2.2.2
          clear hp hA hk6 hsz6 q9 q3 p0 p1 p2 p3 p4 c4 c5f
          have hBA : Hid (Below w.heap.size w w6) := HWC.out.trans (HA.out.below.mono HWC.out.size)
          by_cases hx0 : x6 = 0
          · subst hx0
            clear hx6
            obtain ⟨PA, PB, hrs6, hpa⟩ := putS_told HP.out
            have HRS := Lib.hid hrs6; have HPA := Lib.hid hpa
            clear hrs6 hpa
            obtain ⟨c0, c1, c2, c3, c4, c5f⟩ := cells5 HQ3.out
            go_wp2_with fail
            have hl6 : rs6.length ≤ 1000000 := by have := (putS_inv HP.out HBO.out.right HBO.out.hh).2.1; omega
            refine (apart_from HA.out hl6 r.key 1 (.slice Ak r.key.length ck) (HX.out.up hBA.out).1 (by omega)).mono ?_; rintro e w7 ⟨v11, rfl, hT⟩
            obtain ⟨A11, c11, rfl⟩ : ∃ A c, v11 = .slice A 1 c := by
              obtain ⟨ts, ht1, ht2, _⟩ := hT
              have hl : ts.length = 1 := by
                have h1 := congrArg List.length ht1
                rw [List.length_map] at h1
                rw [h1, HRS.out]
                exact fromS_told
              rw [hl] at ht2
              obtain ⟨A', c', e, _⟩ := own_form ht2
              exact ⟨A', c', e⟩
            have hW7 : Below w6.heap.size w6 w7 := by obtain ⟨_, _, _, _, h⟩ := hT; exact h
            clear hT c0 c1 c2 c3 c4 c5f
            have HW7 := Lib.hid hW7; clear hW7
            have HA7 := Lib.hid (HA.out.below' HW7.out)
            have HQ97 := Lib.hid (blk_below HQ9.out HW7.out (blk_lt HQ9.out))
            have HQ37 := Lib.hid (blk_below HQ3.out HW7.out (blk_lt HQ3.out))
            clear HQ9 HQ3
            obtain ⟨p0, p1, p2, p3, p4⟩ := cells4 HQ97.out
            have HSW : Hid (W.heap.size = w4.heap.size + 1) := by have := HWE.out; show _ = _; rw [this]; simp
            have bytes7 : ∀ (A : Option Addr) (c : Nat) (l : List UInt8), Mine wr.heap.size W (.slice A l.length c) l → l.length ≠ 0 → ∃ g, A = some ⟨g, 0, none⟩ ∧ wr.heap.size ≤ g ∧ g < w4.heap.size ∧ BytesFrom w7 g 0 l.length := by
              intro A c l hM hl
              obtain ⟨g, e, hg, cur, hc1, hc2⟩ := BytesFrom.of_mine hM (fun h => hl (by rw [h]; rfl))
              have h1 := blk_lt hc1
              have h2 := ne_of_type hc1 HB9.out (by decide)
              have h3 := HSW.out
              have h4 : w6.heap[g]? = _ := (HK6.out g hg h1).trans hc1
              exact ⟨g, e, hg, by omega, cur, blk_below h4 HW7.out (blk_lt h4), hc2⟩
            have FV := Lib.hid (bytes7 _ _ _ M2.out)
            have FK := Lib.hid (bytes7 _ _ _ M1.out)
            clear bytes7
            go_wp2_with fail
            go_loopg [12] r.val.length (fun g vi wx => ∃ i : Nat, g = r.val.length - i ∧ i ≤ r.val.length ∧ vi = .int .i64 i ∧ OnlyIn wr.heap.size w4.heap.size w7 wx ∧ (r.val.length ≠ 0 → ∃ g, A6 = some ⟨g, 0, none⟩ ∧ wr.heap.size ≤ g ∧ g < w4.heap.size ∧ BytesFrom wx g 0 r.val.length) ∧ (r.key.length ≠ 0 → ∃ g, A5 = some ⟨g, 0, none⟩ ∧ wr.heap.size ≤ g ∧ g < w4.heap.size ∧ BytesFrom wx g 0 r.key.length))
            case atStart => exact ⟨0, rfl, by omega, rfl, OnlyIn.refl _ _ _, FV.out, FK.out⟩
            case round =>
              obtain ⟨i, hgi, hi, rfl, hO, hV, hK⟩ := hrel
              have HG := Lib.hid hgi; have HO := Lib.hid hO; have HVX := Lib.hid hV; have HKX := Lib.hid hK
              clear hgi hO hV hK
              obtain ⟨p0, p1, p2, p3, p4⟩ := cells4 ((HO.out.block _ (by omega)).trans HQ97.out)
              by_cases hlt : i < r.val.length
              · obtain ⟨gv, rfl, hv1, hv2, cur, hv3, hv4⟩ := HVX.out (by omega)
                obtain ⟨z, z1, z2, z3⟩ := hv4 i (by omega) hlt
                have cz : _ = some (Value.int .u8 z) := (blk_cell hv3 i).trans z3
                have fz := blk_free hv3 i
                have i1 : (0 : Int) ≤ (i : Int) := by omega
                have i2 : (i : Int) < (r.val.length : Int) := by omega
                obtain ⟨zx, hzx⟩ : ∃ zx, bits BinOp.xor IntKind.u8 z 255 = zx := ⟨_, rfl⟩
                have hzr : 0 ≤ zx ∧ zx < 256 := by rw [← hzx]; exact xor_byte z1 z2
                have HZ := Lib.hid hzr; clear hzr
                go_wp2_with fail
                go_roundg (r.val.length - (i + 1))
                case measure => have := HG.out; omega
                case rel =>
                  exact ⟨i + 1, rfl, by omega, congrArg (Value.int .i64) (IntWalk.wrap64_in ((i : Int) + 1) (by have hlv := HLV.out; omega)), HO.out.setCell hv1 hv2 _ _, fun h => by obtain ⟨g, e, h1, h2, h3⟩ := HVX.out h; exact ⟨g, e, h1, h2, h3.put _ _ HZ.out.1 HZ.out.2⟩, fun h => by obtain ⟨g, e, h1, h2, h3⟩ := HKX.out h; exact ⟨g, e, h1, h2, h3.put _ _ HZ.out.1 HZ.out.2⟩⟩
              · clear HG
                have hkp : 1 ≤ r.key.length := (right_bounds (HA.out.right r (by rw [HRS.out]; simp))).2.2.2.2
                obtain ⟨gk, rfl, hv1, hv2, cur, hv3, hv4⟩ := HKX.out (by omega)
                obtain ⟨z, z1, z2, z3⟩ := hv4 0 (by omega) (by omega)
                have cz : _ = some (Value.int .u8 z) := (blk_cell hv3 0).trans z3
                have fz := blk_free hv3 0
                have i1 : (0 : Int) < (r.key.length : Int) := by omega
                obtain ⟨zx, hzx⟩ : ∃ zx, bits BinOp.xor IntKind.u8 z 255 = zx := ⟨_, rfl⟩
                obtain ⟨c0, c1, c2, c3, c4, c5f⟩ := cells5 ((HO.out.block _ (by have h1 := HA.out.low; have h2 := blk_lt HBC.out; omega)).trans HQ37.out)
                go_wp2_with fail
                obtain ⟨wg, hwg⟩ : ∃ wg : World, wg = wr.setCell ⟨gk, 0, none⟩ (.int .u8 zx) := ⟨_, rfl⟩
                rw [← hwg]
                have hOk := HO.out.setCell hv1 hv2 0 (.int .u8 zx)
                rw [← hwg] at hOk
                clear hwg
                have hBk : Below w.heap.size w wg := OnlyIn.to_below (hBA.out.trans (HW7.out.mono hBA.out.size)) hOk (by have h1 := HA.out.low; have h2 := HWC.out.size; omega)
                have HAK := Lib.hid (HA7.out.onlyIn hOk (Nat.le_refl _) (by have := HSW.out; omega))
                have HBK := Lib.hid hBk
                have HQK := Lib.hid ((hOk.block _ (by have h1 := HA.out.low; have h2 := blk_lt HBC.out; omega)).trans HQ37.out)
                clear hBk c0 c1 c2 c3 c4 c5f p0 p1 p2 p3 p4 hOk cz fz hzx hv3 hv4 z3
                clear HO HVX HKX FV FK hi hlt z1 z2 hv1 hv2
                refine (apart_get HAK.out r.key r.seq (.slice Ak r.key.length ck) (HX.out.up HBK.out).1).mono ?_; rintro e w8 ⟨v13, rfl, hR, hW8⟩
                rw [HRS.out, getS_told HPA.out] at hR ⊢
                simp only [Option.getD_some, Option.isSome_some] at hR ⊢
                obtain ⟨A13, c13, A14, c14, rfl, hM1, hM2⟩ := hR
                have HM1 := Lib.hid hM1; have HM2 := Lib.hid hM2; have HW8 := Lib.hid hW8
                clear hM1 hM2 hW8
                go_wp2_with fail
                obtain ⟨w9, hw9⟩ : ∃ w9 : World, w9 = w8.alloc (.cells #[.slice A13 r.key.length c13, .int .i64 r.seq, .bool r.del, .slice A14 r.val.length c14] 35) := ⟨_, rfl⟩
                rw [← hw9]
                have hb13 : w9.heap[w8.heap.size]? = some (.cells #[.slice A13 r.key.length c13, .int .i64 r.seq, .bool r.del, .slice A14 r.val.length c14] 35 (0, 0)) := by rw [hw9]; exact blk_new _ _ rfl
                have h89 : Below w8.heap.size w8 w9 := by rw [hw9]; exact (Below.refl _ _).alloc (Nat.le_refl _) _
                have HB13 := Lib.hid hb13; have H89 := Lib.hid h89
                have HZ89 := Lib.hid (show wg.heap.size ≤ w8.heap.size ∧ w8.heap.size < w9.heap.size from ⟨HW8.out.size, blk_lt hb13⟩)
                have HWGL := Lib.hid (blk_lt HQK.out)
                clear hb13 h89 hw9 p0 p1 p2 p3 p4
                have FV : Hid (r.val.length ≠ 0 → ∃ g, A14 = some ⟨g, 0, none⟩ ∧ wg.heap.size ≤ g ∧ g < w8.heap.size ∧ BytesFrom w9 g 0 r.val.length) := by
                  intro hl
                  obtain ⟨g, e, hg, hf⟩ := BytesFrom.of_mine HM2.out (fun h => hl (by rw [h]; rfl))
                  have hlt8 : g < w8.heap.size := by obtain ⟨cur, hc1, _⟩ := hf; exact blk_lt hc1
                  exact ⟨g, e, hg, hlt8, hf.onlyBelow H89.out⟩
                go_loopg [15] r.val.length (fun g vi wx => ∃ i : Nat, g = r.val.length - i ∧ i ≤ r.val.length ∧ vi = .int .i64 i ∧ OnlyIn wg.heap.size w8.heap.size w9 wx ∧ (r.val.length ≠ 0 → ∃ g, A14 = some ⟨g, 0, none⟩ ∧ wg.heap.size ≤ g ∧ g < w8.heap.size ∧ BytesFrom wx g 0 r.val.length))
                case atStart => exact ⟨0, rfl, by omega, rfl, OnlyIn.refl _ _ _, FV.out⟩
                case round =>
                  obtain ⟨i, hgi, hi, rfl, hO, hV⟩ := hrel
                  have HG := Lib.hid hgi; have HO := Lib.hid hO; have HVX := Lib.hid hV
                  clear hgi hO hV
                  obtain ⟨p0, p1, p2, p3, p4⟩ := cells4 ((HO.out.block _ (by omega)).trans HB13.out)
                  by_cases hlt : i < r.val.length
                  · obtain ⟨gv, rfl, hv1, hv2, cur, hv3, hv4⟩ := HVX.out (by omega)
                    obtain ⟨z, z1, z2, z3⟩ := hv4 i (by omega) hlt
                    have cz : _ = some (Value.int .u8 z) := (blk_cell hv3 i).trans z3
                    have fz := blk_free hv3 i
                    have i1 : (0 : Int) ≤ (i : Int) := by omega
                    have i2 : (i : Int) < (r.val.length : Int) := by omega
                    obtain ⟨zx, hzx⟩ : ∃ zx, bits BinOp.xor IntKind.u8 z 255 = zx := ⟨_, rfl⟩
                    have hzr : 0 ≤ zx ∧ zx < 256 := by rw [← hzx]; exact xor_byte z1 z2
                    have HZ := Lib.hid hzr; clear hzr
                    go_wp2_with fail
                    go_roundg (r.val.length - (i + 1))
                    case measure => have := HG.out; omega
                    case rel =>
                      exact ⟨i + 1, rfl, by omega, congrArg (Value.int .i64) (IntWalk.wrap64_in ((i : Int) + 1) (by have hlv := HLV.out; omega)), HO.out.setCell hv1 hv2 _ _, fun h => by obtain ⟨g, e, h1, h2, h3⟩ := HVX.out h; exact ⟨g, e, h1, h2, h3.put _ _ HZ.out.1 HZ.out.2⟩⟩
                  · clear HG
                    have HAX := Lib.hid ((Apart.wide HAK.out (HW8.out.trans (H89.out.mono HW8.out.size))).onlyIn HO.out (Nat.le_refl _) (Nat.le_of_lt HZ89.out.2))
                    have HBX : Hid (Below w.heap.size w wr) := OnlyIn.to_below (HBK.out.trans ((HW8.out.trans (H89.out.mono HW8.out.size)).mono HBK.out.size)) HO.out HBK.out.size
                    have HQX := Lib.hid ((HO.out.block w.heap.size (by have := HWGL.out; omega)).trans (blk_below HQK.out (HW8.out.trans (H89.out.mono HW8.out.size)) HWGL.out))
                    obtain ⟨c0, c1, c2, c3, c4, c5f⟩ := cells5 HQX.out
                    clear HO HVX hi
                    go_wp2_with fail
                    refine (apart_get HAX.out r.key r.seq (.slice Ak r.key.length ck) (HX.out.up HBX.out).1).mono ?_; rintro e w10 ⟨v16, rfl, hR, hW10⟩
                    rw [HRS.out, getS_told HPA.out] at hR ⊢
                    simp only [Option.getD_some, Option.isSome_some] at hR ⊢
                    obtain ⟨A16, c16, A17, c17, rfl, hM3, hM4⟩ := hR
                    have HM3 := Lib.hid hM3; have HM4 := Lib.hid hM4; have HW10 := Lib.hid hW10
                    have HQ10 := Lib.hid (blk_below HQX.out hW10 (blk_lt HQX.out))
                    clear hM3 hM4 hW10 c0 c1 c2 c3 c4 c5f p0 p1 p2 p3 p4
                    obtain ⟨c0, c1, c2, c3, c4, c5f⟩ := cells5 HQ10.out
                    have hlt0 := blk_lt HQ10.out
                    go_wp2_with fail
                    refine (same_any r r _ _ 0 _ ⟨_, _, rfl, (HM3.out.1.bs (fun b h => h.2)).up (by repeat' (first | (with_reducible exact Below.refl _ _) | (with_reducible refine Below.alloc ?_ ?_ _) | (with_reducible refine below_drewN ?_ _) | (with_reducible refine Below.drew ?_) | (with_reducible refine Below.setCell ?_ ?_ _) | (with_reducible refine Below.trans ?_ (Below.mono HW0.out ?_)) | (with_reducible refine Below.trans ?_ (Below.mono HW1.out ?_)) | (with_reducible refine Below.trans ?_ (Below.mono HW2.out ?_)) | (with_reducible refine Below.trans ?_ (Below.mono HW3.out ?_)) | (with_reducible refine Below.trans ?_ (Below.mono HW4.out ?_)) | (with_reducible refine Below.trans ?_ (Below.mono HW5.out ?_)) | (with_reducible refine Below.trans ?_ (Below.mono HW6.out ?_)) | (with_reducible refine Below.trans ?_ (Below.mono HW7.out ?_)) | (with_reducible exact Nat.le_refl _) | omega | (simp only [World.size_alloc, World.size_setCell, World.size_drew, size_drewN]; omega) | (simp; done) | (simp; omega))), (HM4.out.1.bs (fun b h => h.2)).up (by repeat' (first | (with_reducible exact Below.refl _ _) | (with_reducible refine Below.alloc ?_ ?_ _) | (with_reducible refine below_drewN ?_ _) | (with_reducible refine Below.drew ?_) | (with_reducible refine Below.setCell ?_ ?_ _) | (with_reducible refine Below.trans ?_ (Below.mono HW0.out ?_)) | (with_reducible refine Below.trans ?_ (Below.mono HW1.out ?_)) | (with_reducible refine Below.trans ?_ (Below.mono HW2.out ?_)) | (with_reducible refine Below.trans ?_ (Below.mono HW3.out ?_)) | (with_reducible refine Below.trans ?_ (Below.mono HW4.out ?_)) | (with_reducible refine Below.trans ?_ (Below.mono HW5.out ?_)) | (with_reducible refine Below.trans ?_ (Below.mono HW6.out ?_)) | (with_reducible refine Below.trans ?_ (Below.mono HW7.out ?_)) | (with_reducible exact Nat.le_refl _) | omega | (simp only [World.size_alloc, World.size_setCell, World.size_drew, size_drewN]; omega) | (simp; done) | (simp; omega)))⟩ ⟨_, _, rfl, (HX.out.up (HBX.out.trans (HW10.out.mono HBX.out.size))).1.up (by repeat' (first | (with_reducible exact Below.refl _ _) | (with_reducible refine Below.alloc ?_ ?_ _) | (with_reducible refine below_drewN ?_ _) | (with_reducible refine Below.drew ?_) | (with_reducible refine Below.setCell ?_ ?_ _) | (with_reducible refine Below.trans ?_ (Below.mono HW0.out ?_)) | (with_reducible refine Below.trans ?_ (Below.mono HW1.out ?_)) | (with_reducible refine Below.trans ?_ (Below.mono HW2.out ?_)) | (with_reducible refine Below.trans ?_ (Below.mono HW3.out ?_)) | (with_reducible refine Below.trans ?_ (Below.mono HW4.out ?_)) | (with_reducible refine Below.trans ?_ (Below.mono HW5.out ?_)) | (with_reducible refine Below.trans ?_ (Below.mono HW6.out ?_)) | (with_reducible refine Below.trans ?_ (Below.mono HW7.out ?_)) | (with_reducible exact Nat.le_refl _) | omega | (simp only [World.size_alloc, World.size_setCell, World.size_drew, size_drewN]; omega) | (simp; done) | (simp; omega))), (HX.out.up (HBX.out.trans (HW10.out.mono HBX.out.size))).2.1.up (by repeat' (first | (with_reducible exact Below.refl _ _) | (with_reducible refine Below.alloc ?_ ?_ _) | (with_reducible refine below_drewN ?_ _) | (with_reducible refine Below.drew ?_) | (with_reducible refine Below.setCell ?_ ?_ _) | (with_reducible refine Below.trans ?_ (Below.mono HW0.out ?_)) | (with_reducible refine Below.trans ?_ (Below.mono HW1.out ?_)) | (with_reducible refine Below.trans ?_ (Below.mono HW2.out ?_)) | (with_reducible refine Below.trans ?_ (Below.mono HW3.out ?_)) | (with_reducible refine Below.trans ?_ (Below.mono HW4.out ?_)) | (with_reducible refine Below.trans ?_ (Below.mono HW5.out ?_)) | (with_reducible refine Below.trans ?_ (Below.mono HW6.out ?_)) | (with_reducible refine Below.trans ?_ (Below.mono HW7.out ?_)) | (with_reducible exact Nat.le_refl _) | omega | (simp only [World.size_alloc, World.size_setCell, World.size_drew, size_drewN]; omega) | (simp; done) | (simp; omega)))⟩).mono ?_
                    rintro e w11 ⟨he, hW11⟩
                    obtain rfl : e = .returned (.bool true) := by rw [he]; simp
                    have HW11 := Lib.hid hW11; clear hW11 he
                    go_wp2_with fail
                    go_ret
                    refine ⟨rfl, (HBX.out.trans (HW10.out.mono HBX.out.size)).trans (Below.mono (w := w10) ((Below.refl _ _).alloc (Nat.le_refl _) _ |>.trans (HW11.out.mono (by simp))) (Nat.le_trans HBX.out.size HW10.out.size))⟩
          · have hx1 : x6 = 1 ∨ x6 = 5 := by omega
            clear hx6
            rcases hx1 with rfl | rfl
            · go_wp2_with fail
              go_ret
              exact ⟨rfl, hBA.out⟩
            · go_wp2_with fail
              go_ret
              exact ⟨rfl, hBA.out⟩
end Go.Proofs.Ytpgbinijocbfmaa
