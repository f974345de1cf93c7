/- The reference's Right. -/
import Derived.Test.YtbjjgnaojoaoiaaGreatK13
import Derived.Test.YtbjjgnaojoaoiaaGreatK11
namespace Go.Proofs.YtbjjgnaojoaoiaaGreat
open Go.RowKit Go
set_option linter.unusedVariables false
set_option linter.unusedSimpArgs false

set_option maxHeartbeats 1600000 in
set_option maxRecDepth 100000 in
theorem rright_any (A : Option Addr) (n c : Nat) (s : Sch) (w : World) (hn : s.bs.length = n) (hr : Rd w w.heap.size 2 A n (brCs s.bs)) :
    Calls Tryz.prog 113 #[schV A n c s] w fun e w' => e = .returned (.bool (okS s)) ∧ Below w.heap.size w w' := by
  have hb0 := below_new w (schO A n c s)
  have HR := Lib.hid (hr.below hb0)
  have HN := Lib.hid hn
  have hbk := heap_alloc_new w (schO A n c s)
  have HB0 := Lib.hid hb0
  have hz0 : w.heap.size < (w.alloc (schO A n c s)).heap.size := by simp
  clear hb0 hr
  by_cases hn1 : 1 ≤ n ∧ n ≤ 10
  · obtain ⟨a1, a2⟩ := hn1
    obtain ⟨b, off, rfl, hb, r0, r1⟩ := HR.out.br (k := 0) (by omega) hn
    have r0' : (w.alloc (schO (some ⟨b, off, none⟩) n c s)).cell? ⟨b, off, none⟩ = some (.int .i64 (fr s.bs 0)) := by simpa using r0
    clear r0 r1 hn
    by_cases hsc : fr s.bs 0 = 0 ∧ (0 ≤ s.lbp ∧ s.lbp ≤ 10000) ∧ (0 ≤ s.most ∧ s.most ≤ 60)
    · have HSC := Lib.hid hsc
      obtain ⟨hz, ⟨b1, b2⟩, ⟨m1, m2⟩⟩ := hsc
      rw [hz] at r0'
      clear hz
      go_enter Tryz.func113, Tryz.ntmps113
      go_wp2_with fail
      generalize w.alloc (schO (some ⟨b, off, none⟩) n c s) = W at *
      have HBK := Lib.hid hbk
      clear hbk r0'
      go_loopg [3] n (fun g v3 wr => ∃ k : Nat, g = n - k ∧ k ≤ n ∧ v3 = .int .i64 k ∧ (∀ i, i < k → okB s.bs i) ∧ Below W.heap.size W wr)
      case atStart => exact ⟨0, rfl, by omega, rfl, fun i hi => by omega, Below.refl _ _⟩
      case round =>
        obtain ⟨k, hgk, hk, rfl, hall, hbr⟩ := hrel
        have HG := Lib.hid hgk; have HALL := Lib.hid hall; have HB := Lib.hid hbr
        have hzr := hbr.size
        have HBT : Hid (Below w.heap.size w wr) := HB0.out.trans (hbr.mono (by omega))
        have hbk2 := blk_below HBK.out hbr (by omega)
        obtain ⟨d0, d1, d2, d3, d4, d5⟩ := cells6 hbk2
        have hzw : w.heap.size < wr.heap.size := by omega
        have hzb : b < wr.heap.size := by omega
        clear hgk hall hbk2
        by_cases hlt : k < n
        · have hk' : k < s.bs.length := by have := HN.out; omega
          obtain ⟨b', off', e, _, r0, r1⟩ := (HR.out.below (hbr.mono (by omega))).br hk' HN.out
          simp only [Option.some.injEq, Addr.mk.injEq] at e
          obtain ⟨rfl, rfl, -⟩ := e
          obtain ⟨F, hF⟩ : ∃ F, fr s.bs k = F := ⟨_, rfl⟩
          obtain ⟨P, hP⟩ : ∃ P, bpA s.bs k = P := ⟨_, rfl⟩
          have HF := Lib.hid hF; have HP := Lib.hid hP
          rw [hF] at r0; rw [hP] at r1
          clear hF hP
          have j1 : (0 : Int) ≤ (k : Int) := by omega
          have j2 : (k : Int) < (n : Int) := by omega
          have HMB : Hid (mny F = true → 0 ≤ F ∧ F ≤ 1125899906842624) := mny_yes
          obtain ⟨G, hG⟩ : ∃ G, fr s.bs (k - 1) = G := ⟨_, rfl⟩
          have HGV := Lib.hid hG
          have HGC : Hid (0 < k → wr.cell? ⟨b, off + (k - 1) * 2, none⟩ = some (.int .i64 G)) := by
            intro hk1
            obtain ⟨b', off', e, _, q0, _⟩ := (HR.out.below (hbr.mono (by omega))).br (k := k - 1) (by omega) HN.out
            simp only [Option.some.injEq, Addr.mk.injEq] at e
            obtain ⟨rfl, rfl, -⟩ := e
            rw [hG] at q0; exact q0
          clear hG hbr
          by_cases hok : okB s.bs k
          · have HOK := Lib.hid hok
            have hmy : mny F = true := by have := hok.1; rw [HF.out] at this; simp [mny]; omega
            obtain ⟨p1, p2⟩ := hok.2.1
            have hlt2 := hok.2.2
            rw [HP.out] at p1 p2
            rw [HF.out, HGV.out] at hlt2
            clear hok
            have t1 : decide (P < 0) = false := decide_eq_false (by omega)
            have t2 : decide (10000 < P) = false := decide_eq_false (by omega)
            rcases Nat.eq_zero_or_pos k with hk0 | hk0
            · subst hk0
              clear hlt2 HGC
              rw [Nat.zero_mul, Nat.add_zero] at r0 r1
              go_wp2_with fail
              refine (isMoney_any F _).mono ?_; rintro e w' ⟨rfl, rfl⟩
              rw [hmy]; clear hmy
              go_wp2_with fail
              go_quiet (fail)
              go_wp2_with fail
              go_roundg (n - (0 + 1))
              case measure => have := HG.out; omega
              case rel => exact ⟨0 + 1, rfl, by omega, by go_num, fun i hi => by rw [show i = 0 by omega]; exact HOK.out, HB.out.trans (Below.mono (by repeat' (first | (with_reducible exact Below.refl _ _) | (with_reducible refine Below.alloc ?_ ?_ _) | (with_reducible refine below_drewN ?_ _) | (with_reducible refine Below.drew ?_) | (with_reducible refine Below.setCell ?_ ?_ _) | (with_reducible refine Below.trans ?_ (Below.mono HW0.out ?_)) | (with_reducible refine Below.trans ?_ (Below.mono HW1.out ?_)) | (with_reducible refine Below.trans ?_ (Below.mono HW2.out ?_)) | (with_reducible refine Below.trans ?_ (Below.mono HW3.out ?_)) | (with_reducible refine Below.trans ?_ (Below.mono HW4.out ?_)) | (with_reducible refine Below.trans ?_ (Below.mono HW5.out ?_)) | (with_reducible refine Below.trans ?_ (Below.mono HW6.out ?_)) | (with_reducible refine Below.trans ?_ (Below.mono HW7.out ?_)) | (with_reducible exact Nat.le_refl _) | omega | (simp only [World.size_alloc, World.size_setCell, World.size_drew, size_drewN]; omega) | (simp; done) | (simp; omega))) HB.out.size)⟩
            · have hgc := HGC.out hk0
              have hlt3 := hlt2 hk0
              obtain ⟨K, hK⟩ : ∃ K, K = k - 1 := ⟨_, rfl⟩
              rw [← hK] at hgc
              have hsub : IntKind.i64.wrap ((k : Int) - 1) = (K : Int) := by rw [IntWalk.i64_in _ (by omega)]; omega
              have i1 : (0 : Int) ≤ (K : Int) := by omega
              have i2 : (K : Int) < (n : Int) := by omega
              have t3 : decide ((0 : Int) < (k : Int)) = true := decide_eq_true (by omega)
              have t4 : decide (F ≤ G) = false := decide_eq_false (by omega)
              clear hlt2 hlt3 hK HGC
              go_wp2_with fail
              refine (isMoney_any F _).mono ?_; rintro e w' ⟨rfl, rfl⟩
              rw [hmy]; clear hmy
              go_wp2_with fail
              go_quiet (fail)
              go_wp2_with fail
              go_roundg (n - (k + 1))
              case measure => have := HG.out; omega
              case rel => exact ⟨k + 1, rfl, by omega, by go_num, fun i hi => (Nat.lt_or_ge i k).elim (HALL.out i) (fun h => by rw [show i = k by omega]; exact HOK.out), HB.out.trans (Below.mono (by repeat' (first | (with_reducible exact Below.refl _ _) | (with_reducible refine Below.alloc ?_ ?_ _) | (with_reducible refine below_drewN ?_ _) | (with_reducible refine Below.drew ?_) | (with_reducible refine Below.setCell ?_ ?_ _) | (with_reducible refine Below.trans ?_ (Below.mono HW0.out ?_)) | (with_reducible refine Below.trans ?_ (Below.mono HW1.out ?_)) | (with_reducible refine Below.trans ?_ (Below.mono HW2.out ?_)) | (with_reducible refine Below.trans ?_ (Below.mono HW3.out ?_)) | (with_reducible refine Below.trans ?_ (Below.mono HW4.out ?_)) | (with_reducible refine Below.trans ?_ (Below.mono HW5.out ?_)) | (with_reducible refine Below.trans ?_ (Below.mono HW6.out ?_)) | (with_reducible refine Below.trans ?_ (Below.mono HW7.out ?_)) | (with_reducible exact Nat.le_refl _) | omega | (simp only [World.size_alloc, World.size_setCell, World.size_drew, size_drewN]; omega) | (simp; done) | (simp; omega))) HB.out.size)⟩
          · have HNO : Hid (okS s = false) := okS_no fun h => hok (h.2.2.2.2.1 k hk')
            have hbad : ¬ mny F = true ∨ mny F = true ∧ (P < 0 ∨ ¬ P < 0 ∧ (10000 < P ∨ ¬ 10000 < P ∧ 0 < k ∧ F ≤ G)) := by
              by_cases hmy : mny F = true
              · refine .inr ⟨hmy, ?_⟩
                by_cases h1 : P < 0
                · exact .inl h1
                · refine .inr ⟨h1, ?_⟩
                  by_cases h2 : 10000 < P
                  · exact .inl h2
                  · refine .inr ⟨h2, ?_⟩
                    have hmy' := mny_yes hmy
                    by_cases h3 : 0 < k ∧ F ≤ G
                    · exact h3
                    · refine absurd ⟨by rw [HF.out]; exact hmy', by rw [HP.out]; omega, fun h0 => ?_⟩ hok
                      rw [HF.out, HGV.out]; omega
              · exact .inl hmy
            clear hok
            rcases hbad with hmy | ⟨hmy, h1 | ⟨h1, h2 | ⟨h2, hk0, h3⟩⟩⟩
            · go_wp2_with fail
              refine (isMoney_any F _).mono ?_; rintro e w' ⟨rfl, rfl⟩
              rw [Bool.eq_false_iff.2 hmy]; clear hmy
              go_wp2_with fail
              go_quiet (fail)
              go_wp2_with fail
              go_ret
              exact ⟨ret_bool HNO.out.symm, HBT.out.trans (Below.mono (by repeat' (first | (with_reducible exact Below.refl _ _) | (with_reducible refine Below.alloc ?_ ?_ _) | (with_reducible refine below_drewN ?_ _) | (with_reducible refine Below.drew ?_) | (with_reducible refine Below.setCell ?_ ?_ _) | (with_reducible refine Below.trans ?_ (Below.mono HW0.out ?_)) | (with_reducible refine Below.trans ?_ (Below.mono HW1.out ?_)) | (with_reducible refine Below.trans ?_ (Below.mono HW2.out ?_)) | (with_reducible refine Below.trans ?_ (Below.mono HW3.out ?_)) | (with_reducible refine Below.trans ?_ (Below.mono HW4.out ?_)) | (with_reducible refine Below.trans ?_ (Below.mono HW5.out ?_)) | (with_reducible refine Below.trans ?_ (Below.mono HW6.out ?_)) | (with_reducible refine Below.trans ?_ (Below.mono HW7.out ?_)) | (with_reducible exact Nat.le_refl _) | omega | (simp only [World.size_alloc, World.size_setCell, World.size_drew, size_drewN]; omega) | (simp; done) | (simp; omega))) HBT.out.size)⟩
            · have t1 : decide (P < 0) = true := decide_eq_true h1
              go_wp2_with fail
              refine (isMoney_any F _).mono ?_; rintro e w' ⟨rfl, rfl⟩
              rw [hmy]; clear hmy
              go_wp2_with fail
              go_quiet (fail)
              go_wp2_with fail
              go_ret
              exact ⟨ret_bool HNO.out.symm, HBT.out.trans (Below.mono (by repeat' (first | (with_reducible exact Below.refl _ _) | (with_reducible refine Below.alloc ?_ ?_ _) | (with_reducible refine below_drewN ?_ _) | (with_reducible refine Below.drew ?_) | (with_reducible refine Below.setCell ?_ ?_ _) | (with_reducible refine Below.trans ?_ (Below.mono HW0.out ?_)) | (with_reducible refine Below.trans ?_ (Below.mono HW1.out ?_)) | (with_reducible refine Below.trans ?_ (Below.mono HW2.out ?_)) | (with_reducible refine Below.trans ?_ (Below.mono HW3.out ?_)) | (with_reducible refine Below.trans ?_ (Below.mono HW4.out ?_)) | (with_reducible refine Below.trans ?_ (Below.mono HW5.out ?_)) | (with_reducible refine Below.trans ?_ (Below.mono HW6.out ?_)) | (with_reducible refine Below.trans ?_ (Below.mono HW7.out ?_)) | (with_reducible exact Nat.le_refl _) | omega | (simp only [World.size_alloc, World.size_setCell, World.size_drew, size_drewN]; omega) | (simp; done) | (simp; omega))) HBT.out.size)⟩
            · have t1 : decide (P < 0) = false := decide_eq_false h1
              have t2 : decide (10000 < P) = true := decide_eq_true h2
              go_wp2_with fail
              refine (isMoney_any F _).mono ?_; rintro e w' ⟨rfl, rfl⟩
              rw [hmy]; clear hmy
              go_wp2_with fail
              go_quiet (fail)
              go_wp2_with fail
              go_ret
              exact ⟨ret_bool HNO.out.symm, HBT.out.trans (Below.mono (by repeat' (first | (with_reducible exact Below.refl _ _) | (with_reducible refine Below.alloc ?_ ?_ _) | (with_reducible refine below_drewN ?_ _) | (with_reducible refine Below.drew ?_) | (with_reducible refine Below.setCell ?_ ?_ _) | (with_reducible refine Below.trans ?_ (Below.mono HW0.out ?_)) | (with_reducible refine Below.trans ?_ (Below.mono HW1.out ?_)) | (with_reducible refine Below.trans ?_ (Below.mono HW2.out ?_)) | (with_reducible refine Below.trans ?_ (Below.mono HW3.out ?_)) | (with_reducible refine Below.trans ?_ (Below.mono HW4.out ?_)) | (with_reducible refine Below.trans ?_ (Below.mono HW5.out ?_)) | (with_reducible refine Below.trans ?_ (Below.mono HW6.out ?_)) | (with_reducible refine Below.trans ?_ (Below.mono HW7.out ?_)) | (with_reducible exact Nat.le_refl _) | omega | (simp only [World.size_alloc, World.size_setCell, World.size_drew, size_drewN]; omega) | (simp; done) | (simp; omega))) HBT.out.size)⟩
            · have hgc := HGC.out hk0
              have t1 : decide (P < 0) = false := decide_eq_false h1
              have t2 : decide (10000 < P) = false := decide_eq_false h2
              obtain ⟨K, hK⟩ : ∃ K, K = k - 1 := ⟨_, rfl⟩
              rw [← hK] at hgc
              have hsub : IntKind.i64.wrap ((k : Int) - 1) = (K : Int) := by rw [IntWalk.i64_in _ (by omega)]; omega
              have i1 : (0 : Int) ≤ (K : Int) := by omega
              have i2 : (K : Int) < (n : Int) := by omega
              have t3 : decide ((0 : Int) < (k : Int)) = true := decide_eq_true (by omega)
              have t4 : decide (F ≤ G) = true := decide_eq_true h3
              clear hK HGC
              go_wp2_with fail
              refine (isMoney_any F _).mono ?_; rintro e w' ⟨rfl, rfl⟩
              rw [hmy]; clear hmy
              go_wp2_with fail
              go_quiet (fail)
              go_wp2_with fail
              go_ret
              exact ⟨ret_bool HNO.out.symm, HBT.out.trans (Below.mono (by repeat' (first | (with_reducible exact Below.refl _ _) | (with_reducible refine Below.alloc ?_ ?_ _) | (with_reducible refine below_drewN ?_ _) | (with_reducible refine Below.drew ?_) | (with_reducible refine Below.setCell ?_ ?_ _) | (with_reducible refine Below.trans ?_ (Below.mono HW0.out ?_)) | (with_reducible refine Below.trans ?_ (Below.mono HW1.out ?_)) | (with_reducible refine Below.trans ?_ (Below.mono HW2.out ?_)) | (with_reducible refine Below.trans ?_ (Below.mono HW3.out ?_)) | (with_reducible refine Below.trans ?_ (Below.mono HW4.out ?_)) | (with_reducible refine Below.trans ?_ (Below.mono HW5.out ?_)) | (with_reducible refine Below.trans ?_ (Below.mono HW6.out ?_)) | (with_reducible refine Below.trans ?_ (Below.mono HW7.out ?_)) | (with_reducible exact Nat.le_refl _) | omega | (simp only [World.size_alloc, World.size_setCell, World.size_drew, size_drewN]; omega) | (simp; done) | (simp; omega))) HBT.out.size)⟩
        · have hkn : k = n := by omega
          subst hkn
          have HMY : Hid (((mny s.ded && mny s.cred) && mny s.least) = okS s) := by
            show _ = _
            rw [Bool.eq_iff_iff]
            constructor
            · intro h
              simp only [Bool.and_eq_true] at h
              exact okS_is ⟨by rw [HN.out]; exact ⟨a1, a2⟩, HSC.out.2.1, HSC.out.2.2, HSC.out.1, fun i hi => HALL.out i (by have := HN.out; omega), h.1.1, h.1.2, h.2⟩
            · intro h
              have := okS_yes h
              rw [this.2.2.2.2.2.1, this.2.2.2.2.2.2.1, this.2.2.2.2.2.2.2]; rfl
          by_cases h1 : mny s.ded = true
          · by_cases h2 : mny s.cred = true
            · rw [h1, h2] at HMY
              go_wp2_with fail
              refine (isMoney_any s.ded _).mono ?_; rintro e w' ⟨rfl, rfl⟩
              rw [h1]; clear h1
              go_wp2_with fail
              refine (isMoney_any s.cred _).mono ?_; rintro e w' ⟨rfl, rfl⟩
              rw [h2]; clear h2
              go_wp2_with fail
              refine (isMoney_any s.least _).mono ?_; rintro e w' ⟨rfl, rfl⟩
              go_wp2_with fail
              go_ret
              exact ⟨ret_bool (by have := HMY.out; simpa using this), HBT.out⟩
            · rw [h1, Bool.eq_false_iff.2 h2] at HMY
              go_wp2_with fail
              refine (isMoney_any s.ded _).mono ?_; rintro e w' ⟨rfl, rfl⟩
              rw [h1]; clear h1
              go_wp2_with fail
              refine (isMoney_any s.cred _).mono ?_; rintro e w' ⟨rfl, rfl⟩
              rw [Bool.eq_false_iff.2 h2]; clear h2
              go_wp2_with fail
              go_ret
              exact ⟨ret_bool (by have := HMY.out; simpa using this), HBT.out⟩
          · rw [Bool.eq_false_iff.2 h1] at HMY
            go_wp2_with fail
            refine (isMoney_any s.ded _).mono ?_; rintro e w' ⟨rfl, rfl⟩
            rw [Bool.eq_false_iff.2 h1]; clear h1
            go_wp2_with fail
            go_ret
            exact ⟨ret_bool (by have := HMY.out; simpa using this), HBT.out⟩
    · have HNO : Hid (okS s = false) := okS_no fun h => hsc ⟨h.2.2.2.1, h.2.1, h.2.2.1⟩
      obtain ⟨F, hF⟩ : ∃ F, fr s.bs 0 = F := ⟨_, rfl⟩
      rw [hF] at hsc r0'
      clear hF
      have hbad : ¬ F = 0 ∨ s.lbp < 0 ∨ 10000 < s.lbp ∨ s.most < 0 ∨ 60 < s.most := by omega
      clear hsc
      rcases hbad with h | h | h | h | h
      all_goals
        go_enter Tryz.func113, Tryz.ntmps113
        go_wp2_with fail
        all_goals go_ret
        all_goals exact ⟨ret_bool HNO.out.symm, HB0.out⟩
  · have HNO : Hid (okS s = false) := okS_no fun h => hn1 (by rw [← hn]; exact h.1)
    have hbad : n < 1 ∨ 10 < n := by omega
    clear hn1
    rcases hbad with h | h
    all_goals
      go_enter Tryz.func113, Tryz.ntmps113
      go_wp2_with fail
      all_goals go_ret
      all_goals exact ⟨ret_bool HNO.out.symm, HB0.out⟩
end Go.Proofs.YtbjjgnaojoaoiaaGreat
