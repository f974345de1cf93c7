/- Laws. -/
import Derived.Test.YtbjjgnaojoaoiaaGreatZZ0
import Derived.Deep.LoopGhost
import Derived.Deep.Cut
import Derived.Deep.CutRange
import Derived.Deep.CutBlock
import Derived.Test.YtbjjgnaojoaoiaaGreatZZ11
namespace Go.Proofs.YtbjjgnaojoaoiaaGreat
open Go.RowKit Go
set_option linter.unusedVariables false
set_option linter.unusedSimpArgs false
set_option maxHeartbeats 3200000
set_option maxRecDepth 100000
theorem money_any (A : Option Addr) (zs : List Int) (c : Nat) (w : World) (hr : Rd w w.heap.size 1 A zs.length (ints zs)) (hm : zs.length ≤ maxLen) :
  Calls Tryz.prog 172 #[.slice A zs.length c] w fun e w' => e = .returned (.bool (zs.all mny)) ∧ w = w' := by
 unfold maxLen at hm
 go_enter Tryz.func172, Tryz.ntmps172
 go_wp2
 go_loop [7] (fun i => ∃ k : Nat, k ≤ zs.length ∧ i = .int .i64 k ∧ (zs.take k).all mny = true) (fun i => zs.length - (intOf i).toNat)
 case atStart => exact ⟨0, Nat.zero_le _, rfl, rfl⟩
 case round =>
  obtain ⟨k, hk, rfl, hall⟩ := hrel
  have HA := hyd hall; clear hall
  by_cases hlt : k < zs.length
  · obtain ⟨b, off, rfl, hb, hc⟩ := hr.2 (by omega)
    have hcell := (hc k (by omega)).trans (ints_at zs k hlt)
    clear hc
    by_cases ha : mny zs[k] = true
    · have hb := mny_yes ha
      have HX := hyd ha; clear ha
      go_wp2
      exact ⟨⟨k + 1, by omega, by go_num, by rw [all_snoc _ _ _ hlt, HA.out, HX.out]; rfl⟩, by simp [intOf]; omega⟩
    · have hb := mny_no ha
      have HX := hyd (all_no mny zs k hlt ha); clear ha
      go_wp2
      all_goals (go_ret; exact ⟨ret_bool HX.out.symm, rfl⟩)
  · go_wp2
    go_ret
    exact ⟨ret_bool (by rw [← HA.out, List.take_of_length_le (by omega)]), rfl⟩
theorem money1 (a : Int) (w : World) : Calls Tryz.prog 172 #[.slice (some ⟨w.heap.size, 0, none⟩) 1 1] (w.alloc (.cells #[.int .i64 a] 2)) fun e w' => e = .returned (.bool (mny a)) ∧ w.alloc (.cells #[.int .i64 a] 2) = w' :=
 (money_any (some ⟨w.heap.size, 0, none⟩) [a] 1 _ (Rd.fresh w #[.int .i64 a] 2 1 1 rfl) (by simp [maxLen])).mono fun _ _ ⟨h, g⟩ => ⟨by rw [h]; simp, g⟩
theorem money3 (a b c : Int) (w : World) : Calls Tryz.prog 172 #[.slice (some ⟨w.heap.size, 0, none⟩) 3 3] (w.alloc (.cells #[.int .i64 a, .int .i64 b, .int .i64 c] 2)) fun e w' => e = .returned (.bool (mny a && (mny b && mny c))) ∧ w.alloc (.cells #[.int .i64 a, .int .i64 b, .int .i64 c] 2) = w' :=
 (money_any (some ⟨w.heap.size, 0, none⟩) [a, b, c] 3 _ (Rd.fresh w #[.int .i64 a, .int .i64 b, .int .i64 c] 2 3 1 rfl) (by simp [maxLen])).mono fun _ _ ⟨h, g⟩ => ⟨by rw [h]; simp, g⟩
theorem money1g (a : Int) (g : Nat) (w : World) (hg : g = w.heap.size) : Calls Tryz.prog 172 #[.slice (some ⟨g, 0, none⟩) 1 1] (w.alloc (.cells #[.int .i64 a] 2)) fun e w' => e = .returned (.bool (mny a)) ∧ w.alloc (.cells #[.int .i64 a] 2) = w' := by subst hg; exact money1 a w
def brCs (bs : List Br) : List Value := bs.flatMap fun b => [.int .i64 b.frm, .int .i64 b.bp]
theorem brCs_len (bs : List Br) : (brCs bs).length = bs.length * 2 := by
 unfold brCs
 induction bs with
 | nil => rfl
 | cons b bs ih => rw [List.flatMap_cons, List.length_append, ih]; simp; omega
theorem brCs_at (bs : List Br) (k : Nat) (h : k < bs.length) : (brCs bs)[k * 2]? = some (.int .i64 (fr bs k)) ∧ (brCs bs)[k * 2 + 1]? = some (.int .i64 (bpA bs k)) := by
 induction bs generalizing k with
 | nil => simp at h
 | cons b bs ih =>
   have e : brCs (b :: bs) = .int .i64 b.frm :: .int .i64 b.bp :: brCs bs := by simp [brCs]
   cases k with
   | zero => rw [e]; exact ⟨rfl, rfl⟩
   | succ k =>
     have h1 := ih k (by simpa using h)
     rw [e, show (k + 1) * 2 = k * 2 + 1 + 1 by omega]
     have f1 : fr (b :: bs) (k + 1) = fr bs k := by simp [fr]
     have f2 : bpA (b :: bs) (k + 1) = bpA bs k := by simp [bpA]
     rw [f1, f2]
     exact ⟨by simpa using h1.1, by simpa using h1.2⟩
@[reducible] def schV (A : Option Addr) (n c : Nat) (s : Sch) : Value := .agg #[.slice A n c, .int .i64 s.ded, .int .i64 s.cred, .int .i64 s.lbp, .int .i64 s.most, .int .i64 s.least]
@[reducible] def schO (A : Option Addr) (n c : Nat) (s : Sch) : Obj := .cells #[.slice A n c, .int .i64 s.ded, .int .i64 s.cred, .int .i64 s.lbp, .int .i64 s.most, .int .i64 s.least] 24
theorem Rd.br {w : World} {B n : Nat} {A : Option Addr} {bs : List Br} (h : Rd w B 2 A n (brCs bs)) {k : Nat} (hk : k < bs.length) (hn : bs.length = n) : ∃ b off, A = some ⟨b, off, none⟩ ∧ b < B ∧
  w.cell? ⟨b, off + k * 2, none⟩ = some (.int .i64 (fr bs k)) ∧ w.cell? ⟨b, off + k * 2 + 1, none⟩ = some (.int .i64 (bpA bs k)) := by
 obtain ⟨b, off, e, hb, hc⟩ := h.2 (by omega)
 obtain ⟨h0, h1⟩ := brCs_at bs k hk
 exact ⟨b, off, e, hb, (hc (k * 2) (by omega)).trans h0, (hc (k * 2 + 1) (by omega)).trans h1⟩
theorem okS_scal {s : Sch} (h : ¬ ((1 ≤ s.bs.length ∧ s.bs.length ≤ 10) ∧ (0 ≤ s.lbp ∧ s.lbp ≤ 10000) ∧ (0 ≤ s.most ∧ s.most ≤ 60))) : okS s = false := okS_no fun h' => h ⟨h'.1, h'.2.1, h'.2.2.1⟩
theorem cells6 {w : World} {v0 v1 v2 v3 v4 v5 : Value} {t g : Nat} (h : w.heap[g]? = some (.cells #[v0, v1, v2, v3, v4, v5] t (0, 0))) :
  w.cell? ⟨g, 0, none⟩ = some v0 ∧ w.cell? ⟨g, 1, none⟩ = some v1 ∧ w.cell? ⟨g, 2, none⟩ = some v2 ∧ w.cell? ⟨g, 3, none⟩ = some v3 ∧ w.cell? ⟨g, 4, none⟩ = some v4 ∧ w.cell? ⟨g, 5, none⟩ = some v5 := by
 simp [World.cell?, h]
theorem right_any (A : Option Addr) (n c : Nat) (s : Sch) (w : World) (hn : s.bs.length = n) (hr : Rd w w.heap.size 2 A n (brCs s.bs)) :
  Calls Tryz.prog 171 #[schV A n c s] w fun e w' => e = .returned (.bool (okS s)) ∧ Below w.heap.size w w' := by
 by_cases hsc : (1 ≤ n ∧ n ≤ 10) ∧ (0 ≤ s.lbp ∧ s.lbp ≤ 10000) ∧ (0 ≤ s.most ∧ s.most ≤ 60)
 · have HSC := hyd hsc
   obtain ⟨⟨a1, a2⟩, ⟨b1, b2⟩, ⟨m1, m2⟩⟩ := hsc
   have HN := hyd hn
   have hb0 := below_new w (schO A n c s)
   have HR := hyd (hr.below hb0)
   have hbk := heap_alloc_new w (schO A n c s)
   have HB0 := hyd hb0
   have hz0 : w.heap.size < (w.alloc (schO A n c s)).heap.size := by simp
   clear hb0 hr hn
   go_enter Tryz.func171, Tryz.ntmps171
   go_wp2_with fail
   generalize w.alloc (schO A n c s) = W at *
   have HBK := hyd hbk
   clear hbk
   go_loopg [3, 39] n (fun g v3 v39 wr => ∃ k : Nat, g = n - k ∧ k ≤ n ∧ v39 = .int .i64 k ∧ v3 = .int .i64 (if k = 0 then -1 else fr s.bs (k - 1)) ∧ (∀ i, i < k → okB s.bs i) ∧ Below W.heap.size W wr)
   case atStart => exact ⟨0, rfl, by omega, rfl, rfl, fun i hi => by omega, Below.refl _ _⟩
   case round =>
    obtain ⟨k, hgk, hk, rfl, rfl, hall, hbr⟩ := hrel
    have HG := hyd hgk; have HALL := hyd hall; have HB := hyd hbr
    have hzr := hbr.size
    have HBT : Hid (Below w.heap.size w wr) := HB0.out.trans (hbr.mono (by omega))
    clear hgk hall
    by_cases hlt : k < n
    · have hk' : k < s.bs.length := by have := HN.out; omega
      obtain ⟨b, off, rfl, hb, r0, r1⟩ := (HR.out.below (hbr.mono (by omega))).br hk' HN.out
      obtain ⟨F, hF⟩ : ∃ F, fr s.bs k = F := ⟨_, rfl⟩
      obtain ⟨P, hP⟩ : ∃ P, bpA s.bs k = P := ⟨_, rfl⟩
      obtain ⟨L, hL⟩ : ∃ L, (if k = 0 then -1 else fr s.bs (k - 1)) = L := ⟨_, rfl⟩
      have HF := hyd hF; have HP := hyd hP; have HL := hyd hL
      rw [hF] at r0; rw [hP] at r1; rw [hL]
      clear hF hP hL hbr
      have j1 : (0 : Int) ≤ (k : Int) := by omega
      have j2 : (k : Int) < (n : Int) := by omega
      have hzb : b < wr.heap.size := by omega
      by_cases hok : okB s.bs k
      · have HOK := hyd hok
        obtain ⟨⟨f1, f2⟩, ⟨p1, p2⟩, o1⟩ := hok
        rw [HF.out] at f1 f2 o1; rw [HP.out] at p1 p2
        have hmy : mny F = true := by simp [mny]; omega
        have hlast : ¬ F ≤ L := by
         have := HL.out
         split at this
         · omega
         · have := o1 (by omega); omega
        clear o1
        go_wp2_with fail
        refine (money1g F (wr.heap.size + 1) (wr.alloc (.cells #[.int .i64 F, .int .i64 P] 160)) (by simp)).mono ?_; rintro e w' ⟨rfl, rfl⟩
        rw [hmy]; clear hmy
        go_wp2_with fail
        go_roundg (n - (k + 1))
        case measure => have := HG.out; omega
        case rel => exact ⟨k + 1, rfl, by omega, by go_num, by rw [if_neg (by omega), Nat.add_sub_cancel, HF.out], fun i hi => (Nat.lt_or_ge i k).elim (HALL.out i) (fun h => by rw [show i = k by omega]; exact HOK.out), HB.out.trans (Below.mono bly HB.out.size)⟩
      · have HNO : Hid (okS s = false) := okS_no fun h => hok (h.2.2.2.2.1 k hk')
        have hbad : ¬ mny F = true ∨ mny F = true ∧ (F ≤ L ∨ ¬ F ≤ L ∧ (P < 0 ∨ 10000 < P)) := by
         by_cases hmy : mny F = true
         · refine .inr ⟨hmy, ?_⟩
           by_cases h1 : F ≤ L
           · exact .inl h1
           · refine .inr ⟨h1, ?_⟩
             have hmy' := mny_yes hmy
             by_cases h2 : 0 ≤ P ∧ P ≤ 10000
             · refine absurd ⟨by rw [HF.out]; exact hmy', by rw [HP.out]; exact h2, fun h0 => ?_⟩ hok
               have := HL.out
               rw [if_neg (by omega)] at this
               rw [this, HF.out]; omega
             · omega
         · exact .inl hmy
        clear hok
        rcases hbad with hmy | ⟨hmy, h1 | ⟨h1, h2 | h2⟩⟩
        all_goals
         go_wp2_with fail
         refine (money1g F (wr.heap.size + 1) (wr.alloc (.cells #[.int .i64 F, .int .i64 P] 160)) (by simp)).mono ?_; rintro e w' ⟨rfl, rfl⟩
         first
          | rw [hmy]
          | rw [Bool.eq_false_iff.2 hmy]
         go_wp2_with fail
         all_goals go_ret
         all_goals exact ⟨ret_bool HNO.out.symm, HBT.out.trans (Below.mono bly HBT.out.size)⟩
    · have hkn : k = n := by omega
      subst hkn
      have h0' : 0 < s.bs.length := by have := HN.out; omega
      obtain ⟨b, off, rfl, hb, r0, r1⟩ := (HR.out.below (hbr.mono (by omega))).br h0' HN.out
      have hbk2 := blk_below HBK.out hbr (by omega)
      obtain ⟨d0, d1, d2, d3, d4, d5⟩ := cells6 hbk2
      have hzw : w.heap.size < wr.heap.size := by omega
      have r0' : wr.cell? ⟨b, off, none⟩ = some (.int .i64 (fr s.bs 0)) := by simpa using r0
      clear hbk2 r0 r1 hbr
      by_cases hz : fr s.bs 0 = 0
      · have HMY : Hid ((mny s.ded && (mny s.cred && mny s.least)) = okS s) := by
          show _ = _
          rw [Bool.eq_iff_iff]
          constructor
          · intro h
            simp only [Bool.and_eq_true] at h
            exact okS_is ⟨by rw [HN.out]; exact HSC.out.1, HSC.out.2.1, HSC.out.2.2, hz, fun i hi => HALL.out i (by have := HN.out; omega), h.1, h.2.1, h.2.2⟩
          · intro h
            have := okS_yes h
            rw [this.2.2.2.2.2.1, this.2.2.2.2.2.2.1, this.2.2.2.2.2.2.2]; rfl
        rw [hz] at r0'
        go_wp2_with fail
        refine (money3 s.ded s.cred s.least _).mono ?_; rintro e w' ⟨rfl, rfl⟩
        rw [HMY.out]
        go_wp2_with fail
        go_ret
        exact ⟨rfl, HBT.out.trans (Below.mono bly HBT.out.size)⟩
      · have HNO : Hid (okS s = false) := okS_no fun h => hz h.2.2.2.1
        have hz' : (fr s.bs 0 == 0) = false := by simpa using hz
        go_wp2_with fail
        go_ret
        exact ⟨ret_bool HNO.out.symm, HBT.out⟩
 · have HNO : Hid (okS s = false) := okS_scal (by rw [hn]; exact hsc)
   have hbad : n < 1 ∨ 10 < n ∨ s.lbp < 0 ∨ 10000 < s.lbp ∨ s.most < 0 ∨ 60 < s.most := by omega
   clear hsc
   rcases hbad with h | h | h | h | h | h
   all_goals
    go_enter Tryz.func171, Tryz.ntmps171
    go_wp2_with fail
    all_goals go_ret
    all_goals exact ⟨ret_bool HNO.out.symm, below_new _ _⟩
noncomputable def taxedS (s : Sch) (x : Int) : Int × Int := if okS s && mny x then (partS s x, 0) else (0, 1)
theorem taxed_any (A : Option Addr) (n c : Nat) (s : Sch) (x : Int) (w : World) (hn : s.bs.length = n) (hr : Rd w w.heap.size 2 A n (brCs s.bs)) :
  Calls Tryz.prog 138 #[schV A n c s, .int .i64 x] w fun e w' => e = .returned (pr (taxedS s x)) ∧ Below w.heap.size w w' := by
 have hb0 := below_new w (schO A n c s)
 have HR := hyd (right_any A n c s _ hn ((hr.below hb0).wider hb0.size))
 have hbk := heap_alloc_new w (schO A n c s)
 have HB0 := hyd hb0
 have hz0 : w.heap.size < (w.alloc (schO A n c s)).heap.size := by simp
 clear hb0 hr hn
 by_cases hok : okS s = true
 · have HOK := okS_yes hok
   by_cases hx : mny x = true
   · have HT : Hid (taxedS s x = (partS s x, 0)) := if_pos (by rw [hok, hx]; rfl)
     have hd := mny_yes HOK.2.2.2.2.2.1
     have hx' := mny_yes hx
     clear HOK
     go_enter Tryz.func138, Tryz.ntmps138
     go_wp2_with fail
     refine HR.out.mono ?_; rintro e w1 ⟨rfl, hw1⟩
     have hbk1 := blk_below hbk hw1 (by simp)
     obtain ⟨d0, d1, d2, d3, d4, d5⟩ := cells6 hbk1
     have HW1 := hyd (HB0.out.trans (hw1.mono (by simp)))
     have hz1 := hw1.size
     simp only [World.size_alloc, Nat.add_one_le_iff] at hz1
     rw [hok]
     clear hw1 hbk1 hok
     go_wp2_with fail
     refine (money1 x w1).mono ?_; rintro e w' ⟨rfl, rfl⟩
     rw [hx]; clear hx
     go_wp2_with fail
     all_goals go_ret2
     all_goals exact ⟨ret_pr (by rw [HT.out]; exact Prod.ext (by show partS s x = _; unfold partS; omega) rfl), HW1.out.trans (Below.mono (below_new _ _) HW1.out.size)⟩
   · have HT : Hid (taxedS s x = (0, 1)) := if_neg (by simp [hx])
     clear HOK
     go_enter Tryz.func138, Tryz.ntmps138
     go_wp2_with fail
     refine HR.out.mono ?_; rintro e w1 ⟨rfl, hw1⟩
     have HW1 := hyd (HB0.out.trans (hw1.mono (by simp)))
     rw [hok]
     clear hw1 hok
     go_wp2_with fail
     refine (money1 x w1).mono ?_; rintro e w' ⟨rfl, rfl⟩
     rw [Bool.eq_false_iff.2 hx]; clear hx
     go_wp2_with fail
     go_ret2
     exact ⟨ret_pr HT.out, HW1.out.trans (Below.mono (below_new _ _) HW1.out.size)⟩
 · have HT : Hid (taxedS s x = (0, 1)) := if_neg (by simp [hok])
   go_enter Tryz.func138, Tryz.ntmps138
   go_wp2_with fail
   refine HR.out.mono ?_; rintro e w1 ⟨rfl, hw1⟩
   have HW1 := hyd (HB0.out.trans (hw1.mono (by simp)))
   rw [Bool.eq_false_iff.2 hok]
   clear hw1 hok
   go_wp2_with fail
   go_ret2
   exact ⟨ret_pr HT.out, HW1.out⟩
theorem tax_any (A : Option Addr) (n c : Nat) (s : Sch) (x : Int) (w : World) (hn : s.bs.length = n) (hr : Rd w w.heap.size 2 A n (brCs s.bs)) :
  Calls Tryz.prog 88 #[schV A n c s, .int .i64 x] w fun e w' => e = .returned (pr (taxS s x)) ∧ Below w.heap.size w w' := by
 have hb0 := below_new w (schO A n c s)
 have hr0 := (hr.below hb0).wider hb0.size
 have HTX := hyd (taxed_any A n c s x _ hn hr0)
 have hbk := heap_alloc_new w (schO A n c s)
 have HB0 := hyd hb0; have HR0 := hyd hr0; have HN := hyd hn
 have hz0 : w.heap.size < (w.alloc (schO A n c s)).heap.size := by simp
 clear hb0 hr hr0 hn
 by_cases hok : (okS s && mny x) = true
 · have hok' : okS s = true ∧ mny x = true := by simpa using hok
   have HOK := hyd (okS_yes hok'.1)
   have HV := hyd (taxV_bd HOK.out hok'.2)
   have hx' := mny_yes hok'.2
   have HT : Hid (taxS s x = (taxV s x, 0)) := if_pos hok
   have ht : taxedS s x = (partS s x, 0) := if_pos hok
   obtain ⟨P, hP⟩ : ∃ P, partS s x = P := ⟨_, rfl⟩
   rw [hP] at ht
   have HPD : Hid (partS s x = P) := hP
   have hPb : 0 ≤ P ∧ P ≤ 1125899906842624 := by
    have hd := mny_yes HOK.out.2.2.2.2.2.1
    rw [← hP]; unfold partS; omega
   have hcr := mny_yes HOK.out.2.2.2.2.2.2.1
   have hn10 : n ≤ 10 := by have := HOK.out.1.2; have := HN.out; omega
   rw [ht] at HTX
   clear ht hok' hP hok
   go_enter Tryz.func88, Tryz.ntmps88
   go_wp2_with fail
   refine HTX.out.mono ?_; rintro e w1 ⟨rfl, hw1⟩
   have hbk1 := blk_below hbk hw1 (by simp)
   have HR1 := hyd (HR0.out.below hw1)
   have HW1 := hyd (HB0.out.trans (hw1.mono (by simp)))
   have hz1 := hw1.size
   simp only [World.size_alloc, Nat.add_one_le_iff] at hz1
   have HBK := hyd hbk1
   obtain ⟨d0, d1, d2, d3, d4, d5⟩ := cells6 hbk1
   have hsub : IntKind.i64.wrap ((n : Int) - 1) = (n : Int) - 1 := IntWalk.i64_in _ (by omega)
   clear hw1 hbk1 hbk
   go_wp2_with fail
   clear hsub d0 d1 d2 d3 d4 d5
   go_loopg [6, 8, 9, 10] n (fun g v6 v8 v9 v10 wr => ∃ (k u p : Nat) (left : Int), g = k ∧ k ≤ n ∧ v10 = .int .i64 ((k : Int) - 1) ∧ v6 = .int .i64 left ∧ v8 = .int .i64 u ∧ v9 = .int .i64 p ∧ Dn s.bs P k left u p ∧ Below w1.heap.size w1 wr)
   case atStart => exact ⟨n, 0, 0, P, rfl, Nat.le_refl _, rfl, rfl, rfl, rfl, by have := Dn.start (bs := s.bs) (P := P); rwa [HN.out] at this, Below.refl _ _⟩
   case round =>
    obtain ⟨k, u, p, left, hgk, hk, rfl, rfl, rfl, rfl, hdn, hbr⟩ := hrel
    have HG := hyd hgk; have HDN := hyd hdn; have HB := hyd hbr
    have hzr := hbr.size
    have hbd := hdn.bound HOK.out.2.2.2.2.1 HOK.out.2.2.2.1 hPb HOK.out.1.2 (by have := HN.out; omega)
    have hbk2 := blk_below HBK.out hbr (blk_lt HBK.out)
    obtain ⟨d0, d1, d2, d3, d4, d5⟩ := cells6 hbk2
    obtain ⟨⟨l1, l2⟩, ⟨u1, u2⟩, ⟨p1, p2⟩⟩ := hbd
    clear hgk hdn hbk2
    rcases Nat.eq_zero_or_pos k with h0 | h0
    · subst h0
      have HE : Hid ((u : Int) + (p : Int) / 10000 - s.cred = up_ s.bs P s.bs.length / 10000 - s.cred) := by show _ = _; rw [HDN.out.done]
      go_wp2_with fail
      all_goals go_ret2
      all_goals exact ⟨ret_pr (by rw [HT.out]; exact Prod.ext (by show taxV s x = _; rw [taxV, HPD.out, ← HE.out]; omega) rfl), HW1.out.trans (HB.out.mono HW1.out.size)⟩
    · obtain ⟨j, rfl⟩ : ∃ j, k = j + 1 := ⟨k - 1, by omega⟩
      have hj' : j < s.bs.length := by have := HN.out; omega
      obtain ⟨b, off, rfl, hb, r0, r1⟩ := (HR1.out.below (hbr.mono (by simp; omega))).br hj' HN.out
      have hok := HOK.out.2.2.2.2.1 j hj'
      have HSK := hyd (fun h => HDN.out.skip HOK.out.2.2.2.2.1 hj' h)
      have HST := hyd (fun h => HDN.out.step HOK.out.2.2.2.2.1 hj' h)
      have HBD := hyd (fun l u p (d : Dn s.bs P j l u p) => d.bound HOK.out.2.2.2.2.1 HOK.out.2.2.2.1 hPb HOK.out.1.2 (by omega))
      obtain ⟨⟨f1, f2⟩, ⟨q1, q2⟩, _⟩ := hok
      generalize fr s.bs j = F at *
      obtain ⟨q, hq⟩ : ∃ q : Nat, bpA s.bs j = (q : Int) := ⟨(bpA s.bs j).toNat, by omega⟩
      rw [hq] at r1 q1 q2 HST
      have j1 : (0 : Int) ≤ (j : Int) := by omega
      have j2 : (j : Int) < (n : Int) := by omega
      have e1 : ((j + 1 : Nat) : Int) - 1 = (j : Int) := by omega
      rw [e1]
      have s1 : IntKind.i64.wrap ((j : Int) - 1) = (j : Int) - 1 := IntWalk.i64_in _ (by omega)
      have hzb : b < wr.heap.size := by simp at hb; omega
      clear e1 hq hbr
      by_cases hle : left ≤ F
      · have HS := hyd (HSK.out hle)
        go_wp2_with fail
        go_roundg j
        case measure => have := HG.out; omega
        case rel => exact ⟨j, u, p, left, rfl, by omega, rfl, rfl, rfl, rfl, HS.out, HB.out.trans (Below.mono bly HB.out.size)⟩
      · have hs := HST.out hle
        have hbd2 := HBD.out _ _ _ hs
        obtain ⟨I, hI⟩ : ∃ I : Nat, left - F = (I : Int) := ⟨(left - F).toNat, by omega⟩
        rw [hI] at hs hbd2
        obtain ⟨X, hX⟩ : ∃ X : Nat, (I : Int) / 10000 * (q : Int) = (X : Int) := ⟨I / 10000 * q, by simp⟩
        obtain ⟨Y, hY⟩ : ∃ Y : Nat, (I : Int) % 10000 * (q : Int) = (Y : Int) := ⟨I % 10000 * q, by simp⟩
        rw [hX, hY] at hs hbd2
        obtain ⟨_, ⟨_, x2⟩, ⟨_, y2⟩⟩ := hbd2
        have hIb : (I : Int) ≤ 1125899906842624 := by omega
        have sI : IntKind.i64.wrap (left - F) = (I : Int) := by rw [IntWalk.i64_in _ (by omega)]; exact hI
        have sX : IntKind.i64.wrap ((I : Int) / 10000 * (q : Int)) = (X : Int) := by rw [hX]; exact IntWalk.i64_in _ (by omega)
        have sY : IntKind.i64.wrap ((I : Int) % 10000 * (q : Int)) = (Y : Int) := by rw [hY]; exact IntWalk.i64_in _ (by omega)
        have HS := hyd hs
        clear hs hI hX hY
        go_wp2_with fail
        go_quiet (fail)
        go_wp2_with fail
        go_roundg j
        case measure => have := HG.out; omega
        case rel => exact ⟨j, u + X, p + Y, F, rfl, by omega, rfl, rfl, by go_num, by go_num, by have := HS.out; simpa using this, HB.out.trans (Below.mono bly HB.out.size)⟩
 · have HT : Hid (taxS s x = (0, 1)) := if_neg hok
   have ht : taxedS s x = (0, 1) := if_neg hok
   rw [ht] at HTX
   go_enter Tryz.func88, Tryz.ntmps88
   go_wp2_with fail
   refine HTX.out.mono ?_; rintro e w1 ⟨rfl, hw1⟩
   have HW1 := hyd (HB0.out.trans (hw1.mono (by simp)))
   clear hw1
   go_wp2_with fail
   go_ret2
   exact ⟨ret_pr HT.out, HW1.out⟩
theorem rright_any (A : Option Addr) (n c : Nat) (s : Sch) (w : World) (hn : s.bs.length = n) (hr : Rd w w.heap.size 2 A n (brCs s.bs)) :
  Calls Tryz.prog 113 #[schV A n c s] w fun e w' => e = .returned (.bool (okS s)) ∧ Below w.heap.size w w' := by
 have hb0 := below_new w (schO A n c s)
 have HR := hyd (hr.below hb0)
 have HN := hyd hn
 have hbk := heap_alloc_new w (schO A n c s)
 have HB0 := hyd hb0
 have hz0 : w.heap.size < (w.alloc (schO A n c s)).heap.size := by simp
 clear hb0 hr
 by_cases hn1 : 1 ≤ n ∧ n ≤ 10
 · obtain ⟨a1, a2⟩ := hn1
   obtain ⟨b, off, rfl, hb, r0, r1⟩ := HR.out.br (k := 0) (by omega) hn
   have r0' : (w.alloc (schO (some ⟨b, off, none⟩) n c s)).cell? ⟨b, off, none⟩ = some (.int .i64 (fr s.bs 0)) := by simpa using r0
   clear r0 r1 hn
   by_cases hsc : fr s.bs 0 = 0 ∧ (0 ≤ s.lbp ∧ s.lbp ≤ 10000) ∧ (0 ≤ s.most ∧ s.most ≤ 60)
   · have HSC := hyd hsc
     obtain ⟨hz, ⟨b1, b2⟩, ⟨m1, m2⟩⟩ := hsc
     rw [hz] at r0'
     clear hz
     go_enter Tryz.func113, Tryz.ntmps113
     go_wp2_with fail
     generalize w.alloc (schO (some ⟨b, off, none⟩) n c s) = W at *
     have HBK := hyd hbk
     clear hbk r0'
     go_loopg [3] n (fun g v3 wr => ∃ k : Nat, g = n - k ∧ k ≤ n ∧ v3 = .int .i64 k ∧ (∀ i, i < k → okB s.bs i) ∧ Below W.heap.size W wr)
     case atStart => exact ⟨0, rfl, by omega, rfl, fun i hi => by omega, Below.refl _ _⟩
     case round =>
      obtain ⟨k, hgk, hk, rfl, hall, hbr⟩ := hrel
      have HG := hyd hgk; have HALL := hyd hall; have HB := hyd hbr
      have hzr := hbr.size
      have HBT : Hid (Below w.heap.size w wr) := HB0.out.trans (hbr.mono (by omega))
      have hbk2 := blk_below HBK.out hbr (by omega)
      obtain ⟨d0, d1, d2, d3, d4, d5⟩ := cells6 hbk2
      have hzw : w.heap.size < wr.heap.size := by omega
      have hzb : b < wr.heap.size := by omega
      clear hgk hall hbk2
      by_cases hlt : k < n
      · have hk' : k < s.bs.length := by have := HN.out; omega
        obtain ⟨b', off', e, _, r0, r1⟩ := (HR.out.below (hbr.mono (by omega))).br hk' HN.out
        simp only [Option.some.injEq, Addr.mk.injEq] at e
        obtain ⟨rfl, rfl, -⟩ := e
        obtain ⟨F, hF⟩ : ∃ F, fr s.bs k = F := ⟨_, rfl⟩
        obtain ⟨P, hP⟩ : ∃ P, bpA s.bs k = P := ⟨_, rfl⟩
        have HF := hyd hF; have HP := hyd hP
        rw [hF] at r0; rw [hP] at r1
        clear hF hP
        have j1 : (0 : Int) ≤ (k : Int) := by omega
        have j2 : (k : Int) < (n : Int) := by omega
        have HMB : Hid (mny F = true → 0 ≤ F ∧ F ≤ 1125899906842624) := mny_yes
        obtain ⟨G, hG⟩ : ∃ G, fr s.bs (k - 1) = G := ⟨_, rfl⟩
        have HGV := hyd hG
        have HGC : Hid (0 < k → wr.cell? ⟨b, off + (k - 1) * 2, none⟩ = some (.int .i64 G)) := by
         intro hk1
         obtain ⟨b', off', e, _, q0, _⟩ := (HR.out.below (hbr.mono (by omega))).br (k := k - 1) (by omega) HN.out
         simp only [Option.some.injEq, Addr.mk.injEq] at e
         obtain ⟨rfl, rfl, -⟩ := e
         rw [hG] at q0; exact q0
        clear hG hbr
        by_cases hok : okB s.bs k
        · have HOK := hyd hok
          have hmy : mny F = true := by have := hok.1; rw [HF.out] at this; simp [mny]; omega
          obtain ⟨p1, p2⟩ := hok.2.1
          have hlt2 := hok.2.2
          rw [HP.out] at p1 p2
          rw [HF.out, HGV.out] at hlt2
          clear hok
          have t1 : decide (P < 0) = false := decide_eq_false (by omega)
          have t2 : decide (10000 < P) = false := decide_eq_false (by omega)
          rcases Nat.eq_zero_or_pos k with hk0 | hk0
          · subst hk0
            clear hlt2 HGC
            rw [Nat.zero_mul, Nat.add_zero] at r0 r1
            go_wp2_with fail
            refine (isMoney_any F _).mono ?_; rintro e w' ⟨rfl, rfl⟩
            rw [hmy]; clear hmy
            go_wp2_with fail
            go_quiet (fail)
            go_wp2_with fail
            go_roundg (n - (0 + 1))
            case measure => have := HG.out; omega
            case rel => exact ⟨0 + 1, rfl, by omega, by go_num, fun i hi => by rw [show i = 0 by omega]; exact HOK.out, HB.out.trans (Below.mono bly HB.out.size)⟩
          · have hgc := HGC.out hk0
            have hlt3 := hlt2 hk0
            obtain ⟨K, hK⟩ : ∃ K, K = k - 1 := ⟨_, rfl⟩
            rw [← hK] at hgc
            have hsub : IntKind.i64.wrap ((k : Int) - 1) = (K : Int) := by rw [IntWalk.i64_in _ (by omega)]; omega
            have i1 : (0 : Int) ≤ (K : Int) := by omega
            have i2 : (K : Int) < (n : Int) := by omega
            have t3 : decide ((0 : Int) < (k : Int)) = true := decide_eq_true (by omega)
            have t4 : decide (F ≤ G) = false := decide_eq_false (by omega)
            clear hlt2 hlt3 hK HGC
            go_wp2_with fail
            refine (isMoney_any F _).mono ?_; rintro e w' ⟨rfl, rfl⟩
            rw [hmy]; clear hmy
            go_wp2_with fail
            go_quiet (fail)
            go_wp2_with fail
            go_roundg (n - (k + 1))
            case measure => have := HG.out; omega
            case rel => exact ⟨k + 1, rfl, by omega, by go_num, fun i hi => (Nat.lt_or_ge i k).elim (HALL.out i) (fun h => by rw [show i = k by omega]; exact HOK.out), HB.out.trans (Below.mono bly HB.out.size)⟩
        · have HNO : Hid (okS s = false) := okS_no fun h => hok (h.2.2.2.2.1 k hk')
          have hbad : ¬ mny F = true ∨ mny F = true ∧ (P < 0 ∨ ¬ P < 0 ∧ (10000 < P ∨ ¬ 10000 < P ∧ 0 < k ∧ F ≤ G)) := by
           by_cases hmy : mny F = true
           · refine .inr ⟨hmy, ?_⟩
             by_cases h1 : P < 0
             · exact .inl h1
             · refine .inr ⟨h1, ?_⟩
               by_cases h2 : 10000 < P
               · exact .inl h2
               · refine .inr ⟨h2, ?_⟩
                 have hmy' := mny_yes hmy
                 by_cases h3 : 0 < k ∧ F ≤ G
                 · exact h3
                 · refine absurd ⟨by rw [HF.out]; exact hmy', by rw [HP.out]; omega, fun h0 => ?_⟩ hok
                   rw [HF.out, HGV.out]; omega
           · exact .inl hmy
          clear hok
          rcases hbad with hmy | ⟨hmy, h1 | ⟨h1, h2 | ⟨h2, hk0, h3⟩⟩⟩
          · go_wp2_with fail
            refine (isMoney_any F _).mono ?_; rintro e w' ⟨rfl, rfl⟩
            rw [Bool.eq_false_iff.2 hmy]; clear hmy
            go_wp2_with fail
            go_quiet (fail)
            go_wp2_with fail
            go_ret
            exact ⟨ret_bool HNO.out.symm, HBT.out.trans (Below.mono bly HBT.out.size)⟩
          · have t1 : decide (P < 0) = true := decide_eq_true h1
            go_wp2_with fail
            refine (isMoney_any F _).mono ?_; rintro e w' ⟨rfl, rfl⟩
            rw [hmy]; clear hmy
            go_wp2_with fail
            go_quiet (fail)
            go_wp2_with fail
            go_ret
            exact ⟨ret_bool HNO.out.symm, HBT.out.trans (Below.mono bly HBT.out.size)⟩
          · have t1 : decide (P < 0) = false := decide_eq_false h1
            have t2 : decide (10000 < P) = true := decide_eq_true h2
            go_wp2_with fail
            refine (isMoney_any F _).mono ?_; rintro e w' ⟨rfl, rfl⟩
            rw [hmy]; clear hmy
            go_wp2_with fail
            go_quiet (fail)
            go_wp2_with fail
            go_ret
            exact ⟨ret_bool HNO.out.symm, HBT.out.trans (Below.mono bly HBT.out.size)⟩
          · have hgc := HGC.out hk0
            have t1 : decide (P < 0) = false := decide_eq_false h1
            have t2 : decide (10000 < P) = false := decide_eq_false h2
            obtain ⟨K, hK⟩ : ∃ K, K = k - 1 := ⟨_, rfl⟩
            rw [← hK] at hgc
            have hsub : IntKind.i64.wrap ((k : Int) - 1) = (K : Int) := by rw [IntWalk.i64_in _ (by omega)]; omega
            have i1 : (0 : Int) ≤ (K : Int) := by omega
            have i2 : (K : Int) < (n : Int) := by omega
            have t3 : decide ((0 : Int) < (k : Int)) = true := decide_eq_true (by omega)
            have t4 : decide (F ≤ G) = true := decide_eq_true h3
            clear hK HGC
            go_wp2_with fail
            refine (isMoney_any F _).mono ?_; rintro e w' ⟨rfl, rfl⟩
            rw [hmy]; clear hmy
            go_wp2_with fail
            go_quiet (fail)
            go_wp2_with fail
            go_ret
            exact ⟨ret_bool HNO.out.symm, HBT.out.trans (Below.mono bly HBT.out.size)⟩
      · have hkn : k = n := by omega
        subst hkn
        have HMY : Hid (((mny s.ded && mny s.cred) && mny s.least) = okS s) := by
         show _ = _
         rw [Bool.eq_iff_iff]
         constructor
         · intro h
           simp only [Bool.and_eq_true] at h
           exact okS_is ⟨by rw [HN.out]; exact ⟨a1, a2⟩, HSC.out.2.1, HSC.out.2.2, HSC.out.1, fun i hi => HALL.out i (by have := HN.out; omega), h.1.1, h.1.2, h.2⟩
         · intro h
           have := okS_yes h
           rw [this.2.2.2.2.2.1, this.2.2.2.2.2.2.1, this.2.2.2.2.2.2.2]; rfl
        by_cases h1 : mny s.ded = true
        · by_cases h2 : mny s.cred = true
          · rw [h1, h2] at HMY
            go_wp2_with fail
            refine (isMoney_any s.ded _).mono ?_; rintro e w' ⟨rfl, rfl⟩
            rw [h1]; clear h1
            go_wp2_with fail
            refine (isMoney_any s.cred _).mono ?_; rintro e w' ⟨rfl, rfl⟩
            rw [h2]; clear h2
            go_wp2_with fail
            refine (isMoney_any s.least _).mono ?_; rintro e w' ⟨rfl, rfl⟩
            go_wp2_with fail
            go_ret
            exact ⟨ret_bool (by have := HMY.out; simpa using this), HBT.out⟩
          · rw [h1, Bool.eq_false_iff.2 h2] at HMY
            go_wp2_with fail
            refine (isMoney_any s.ded _).mono ?_; rintro e w' ⟨rfl, rfl⟩
            rw [h1]; clear h1
            go_wp2_with fail
            refine (isMoney_any s.cred _).mono ?_; rintro e w' ⟨rfl, rfl⟩
            rw [Bool.eq_false_iff.2 h2]; clear h2
            go_wp2_with fail
            go_ret
            exact ⟨ret_bool (by have := HMY.out; simpa using this), HBT.out⟩
        · rw [Bool.eq_false_iff.2 h1] at HMY
          go_wp2_with fail
          refine (isMoney_any s.ded _).mono ?_; rintro e w' ⟨rfl, rfl⟩
          rw [Bool.eq_false_iff.2 h1]; clear h1
          go_wp2_with fail
          go_ret
          exact ⟨ret_bool (by have := HMY.out; simpa using this), HBT.out⟩
   · have HNO : Hid (okS s = false) := okS_no fun h => hsc ⟨h.2.2.2.1, h.2.1, h.2.2.1⟩
     obtain ⟨F, hF⟩ : ∃ F, fr s.bs 0 = F := ⟨_, rfl⟩
     rw [hF] at hsc r0'
     clear hF
     have hbad : ¬ F = 0 ∨ s.lbp < 0 ∨ 10000 < s.lbp ∨ s.most < 0 ∨ 60 < s.most := by omega
     clear hsc
     rcases hbad with h | h | h | h | h
     all_goals
      go_enter Tryz.func113, Tryz.ntmps113
      go_wp2_with fail
      all_goals go_ret
      all_goals exact ⟨ret_bool HNO.out.symm, HB0.out⟩
 · have HNO : Hid (okS s = false) := okS_no fun h => hn1 (by rw [← hn]; exact h.1)
   have hbad : n < 1 ∨ 10 < n := by omega
   clear hn1
   rcases hbad with h | h
   all_goals
    go_enter Tryz.func113, Tryz.ntmps113
    go_wp2_with fail
    all_goals go_ret
    all_goals exact ⟨ret_bool HNO.out.symm, HB0.out⟩
end Go.Proofs.YtbjjgnaojoaoiaaGreat
