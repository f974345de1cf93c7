/- rates: money, Right, taxed, Tax. -/
import Derived.Test.YtbjjgnaojoaoiaaGreatK2
import Derived.Test.YtbjjgnaojoaoiaaGreatK7
import Derived.IntWalk
import Derived.BigQuiet
import Derived.Outline
import Derived.Deep.LoopGhost
import Derived.Deep.Cut
import Derived.Deep.CutRange
import Derived.Deep.CutBlock
import Derived.Test.YtbjjgnaojoaoiaaGreatK8
import Derived.Test.YtbjjgnaojoaoiaaGreatK4
import Derived.Laws.Rows
import Derived.Test.YtbjjgnaojoaoiaaGreatK5
namespace Go.Proofs.YtbjjgnaojoaoiaaGreat
open Go.RowKit Go
set_option linter.unusedVariables false
set_option linter.unusedSimpArgs false

theorem money_any (A : Option Addr) (zs : List Int) (c : Nat) (w : World) (hr : Rd w w.heap.size 1 A zs.length (ints zs)) (hm : zs.length ≤ maxLen) :
    Calls Tryz.prog 172 #[.slice A zs.length c] w fun e w' => e = .returned (.bool (zs.all mny)) ∧ w = w' := by
  unfold maxLen at hm
  go_enter Tryz.func172, Tryz.ntmps172
  go_wp2
  go_loop [7] (fun i => ∃ k : Nat, k ≤ zs.length ∧ i = .int .i64 k ∧ (zs.take k).all mny = true) (fun i => zs.length - (intOf i).toNat)
  case atStart => exact ⟨0, Nat.zero_le _, rfl, rfl⟩
  case round =>
    obtain ⟨k, hk, rfl, hall⟩ := hrel
    have HA := Lib.hid hall; clear hall
    by_cases hlt : k < zs.length
    · obtain ⟨b, off, rfl, hb, hc⟩ := hr.2 (by omega)
      have hcell := (hc k (by omega)).trans (ints_at zs k hlt)
      clear hc
      by_cases ha : mny zs[k] = true
      · have hb := mny_yes ha
        have HX := Lib.hid ha; clear ha
        go_wp2
        exact ⟨⟨k + 1, by omega, by go_num, by rw [all_snoc _ _ _ hlt, HA.out, HX.out]; rfl⟩, by simp [intOf]; omega⟩
      · have hb := mny_no ha
        have HX := Lib.hid (all_no mny zs k hlt ha); clear ha
        go_wp2
        all_goals (go_ret; exact ⟨ret_bool HX.out.symm, rfl⟩)
    · go_wp2
      go_ret
      exact ⟨ret_bool (by rw [← HA.out, List.take_of_length_le (by omega)]), rfl⟩
theorem money1 (a : Int) (w : World) : Calls Tryz.prog 172 #[.slice (some ⟨w.heap.size, 0, none⟩) 1 1] (w.alloc (.cells #[.int .i64 a] 2)) fun e w' => e = .returned (.bool (mny a)) ∧ w.alloc (.cells #[.int .i64 a] 2) = w' :=
  (money_any (some ⟨w.heap.size, 0, none⟩) [a] 1 _ (Rd.fresh w #[.int .i64 a] 2 1 1 rfl) (by simp [maxLen])).mono fun _ _ ⟨h, g⟩ => ⟨by rw [h]; simp, g⟩
theorem money3 (a b c : Int) (w : World) : Calls Tryz.prog 172 #[.slice (some ⟨w.heap.size, 0, none⟩) 3 3] (w.alloc (.cells #[.int .i64 a, .int .i64 b, .int .i64 c] 2)) fun e w' => e = .returned (.bool (mny a && (mny b && mny c))) ∧ w.alloc (.cells #[.int .i64 a, .int .i64 b, .int .i64 c] 2) = w' :=
  (money_any (some ⟨w.heap.size, 0, none⟩) [a, b, c] 3 _ (Rd.fresh w #[.int .i64 a, .int .i64 b, .int .i64 c] 2 3 1 rfl) (by simp [maxLen])).mono fun _ _ ⟨h, g⟩ => ⟨by rw [h]; simp, g⟩

theorem money1g (a : Int) (g : Nat) (w : World) (hg : g = w.heap.size) : Calls Tryz.prog 172 #[.slice (some ⟨g, 0, none⟩) 1 1] (w.alloc (.cells #[.int .i64 a] 2)) fun e w' => e = .returned (.bool (mny a)) ∧ w.alloc (.cells #[.int .i64 a] 2) = w' := by subst hg; exact money1 a w
theorem money3g (a b c : Int) (g : Nat) (w : World) (hg : g = w.heap.size) : Calls Tryz.prog 172 #[.slice (some ⟨g, 0, none⟩) 3 3] (w.alloc (.cells #[.int .i64 a, .int .i64 b, .int .i64 c] 2)) fun e w' => e = .returned (.bool (mny a && (mny b && mny c))) ∧ w.alloc (.cells #[.int .i64 a, .int .i64 b, .int .i64 c] 2) = w' := by subst hg; exact money3 a b c w
/-- The brackets' cells. -/
def brCs (bs : List Br) : List Value := bs.flatMap fun b => [.int .i64 b.frm, .int .i64 b.bp]
theorem brCs_len (bs : List Br) : (brCs bs).length = bs.length * 2 := by
  unfold brCs
  induction bs with
  | nil => rfl
  | cons b bs ih => rw [List.flatMap_cons, List.length_append, ih]; simp; omega
theorem brCs_at (bs : List Br) (k : Nat) (h : k < bs.length) : (brCs bs)[k * 2]? = some (.int .i64 (fr bs k)) ∧ (brCs bs)[k * 2 + 1]? = some (.int .i64 (bpA bs k)) := by
  induction bs generalizing k with
  | nil => simp at h
  | cons b bs ih =>
    have e : brCs (b :: bs) = .int .i64 b.frm :: .int .i64 b.bp :: brCs bs := by simp [brCs]
    cases k with
    | zero => rw [e]; exact ⟨rfl, rfl⟩
    | succ k =>
      have h1 := ih k (by simpa using h)
      rw [e, show (k + 1) * 2 = k * 2 + 1 + 1 by omega]
      have f1 : fr (b :: bs) (k + 1) = fr bs k := by simp [fr]
      have f2 : bpA (b :: bs) (k + 1) = bpA bs k := by simp [bpA]
      rw [f1, f2]
      exact ⟨by simpa using h1.1, by simpa using h1.2⟩
/-- A schedule in memory. -/
@[reducible] def schV (A : Option Addr) (n c : Nat) (s : Sch) : Value := .agg #[.slice A n c, .int .i64 s.ded, .int .i64 s.cred, .int .i64 s.lbp, .int .i64 s.most, .int .i64 s.least]
@[reducible] def schO (A : Option Addr) (n c : Nat) (s : Sch) : Obj := .cells #[.slice A n c, .int .i64 s.ded, .int .i64 s.cred, .int .i64 s.lbp, .int .i64 s.most, .int .i64 s.least] 24
theorem Rd.br {w : World} {B n : Nat} {A : Option Addr} {bs : List Br} (h : Rd w B 2 A n (brCs bs)) {k : Nat} (hk : k < bs.length) (hn : bs.length = n) : ∃ b off, A = some ⟨b, off, none⟩ ∧ b < B ∧
    w.cell? ⟨b, off + k * 2, none⟩ = some (.int .i64 (fr bs k)) ∧ w.cell? ⟨b, off + k * 2 + 1, none⟩ = some (.int .i64 (bpA bs k)) := by
  obtain ⟨b, off, e, hb, hc⟩ := h.2 (by omega)
  obtain ⟨h0, h1⟩ := brCs_at bs k hk
  exact ⟨b, off, e, hb, (hc (k * 2) (by omega)).trans h0, (hc (k * 2 + 1) (by omega)).trans h1⟩
theorem okS_scal {s : Sch} (h : ¬ ((1 ≤ s.bs.length ∧ s.bs.length ≤ 10) ∧ (0 ≤ s.lbp ∧ s.lbp ≤ 10000) ∧ (0 ≤ s.most ∧ s.most ≤ 60))) : okS s = false := okS_no fun h' => h ⟨h'.1, h'.2.1, h'.2.2.1⟩
theorem cells6 {w : World} {v0 v1 v2 v3 v4 v5 : Value} {t g : Nat} (h : w.heap[g]? = some (.cells #[v0, v1, v2, v3, v4, v5] t (0, 0))) :
    w.cell? ⟨g, 0, none⟩ = some v0 ∧ w.cell? ⟨g, 1, none⟩ = some v1 ∧ w.cell? ⟨g, 2, none⟩ = some v2 ∧ w.cell? ⟨g, 3, none⟩ = some v3 ∧ w.cell? ⟨g, 4, none⟩ = some v4 ∧ w.cell? ⟨g, 5, none⟩ = some v5 := by
  simp [World.cell?, h]

set_option maxHeartbeats 1000000 in
set_option maxRecDepth 100000 in
theorem right_any (A : Option Addr) (n c : Nat) (s : Sch) (w : World) (hn : s.bs.length = n) (hr : Rd w w.heap.size 2 A n (brCs s.bs)) :
    Calls Tryz.prog 171 #[schV A n c s] w fun e w' => e = .returned (.bool (okS s)) ∧ Below w.heap.size w w' := by
  by_cases hsc : (1 ≤ n ∧ n ≤ 10) ∧ (0 ≤ s.lbp ∧ s.lbp ≤ 10000) ∧ (0 ≤ s.most ∧ s.most ≤ 60)
  · have HSC := Lib.hid hsc
    obtain ⟨⟨a1, a2⟩, ⟨b1, b2⟩, ⟨m1, m2⟩⟩ := hsc
    have HN := Lib.hid hn
    have hb0 := below_new w (schO A n c s)
    have HR := Lib.hid (hr.below hb0)
    have hbk := heap_alloc_new w (schO A n c s)
    have HB0 := Lib.hid hb0
    have hz0 : w.heap.size < (w.alloc (schO A n c s)).heap.size := by simp
    clear hb0 hr hn
    go_enter Tryz.func171, Tryz.ntmps171
    go_wp2_with fail
    generalize w.alloc (schO A n c s) = W at *
    have HBK := Lib.hid hbk
    clear hbk
    go_loopg [3, 39] n (fun g v3 v39 wr => ∃ k : Nat, g = n - k ∧ k ≤ n ∧ v39 = .int .i64 k ∧ v3 = .int .i64 (if k = 0 then -1 else fr s.bs (k - 1)) ∧ (∀ i, i < k → okB s.bs i) ∧ Below W.heap.size W wr)
    case atStart => exact ⟨0, rfl, by omega, rfl, rfl, fun i hi => by omega, Below.refl _ _⟩
    case round =>
      obtain ⟨k, hgk, hk, rfl, rfl, hall, hbr⟩ := hrel
      have HG := Lib.hid hgk; have HALL := Lib.hid hall; have HB := Lib.hid hbr
      have hzr := hbr.size
      have HBT : Hid (Below w.heap.size w wr) := HB0.out.trans (hbr.mono (by omega))
      clear hgk hall
      by_cases hlt : k < n
      · have hk' : k < s.bs.length := by have := HN.out; omega
        obtain ⟨b, off, rfl, hb, r0, r1⟩ := (HR.out.below (hbr.mono (by omega))).br hk' HN.out
        obtain ⟨F, hF⟩ : ∃ F, fr s.bs k = F := ⟨_, rfl⟩
        obtain ⟨P, hP⟩ : ∃ P, bpA s.bs k = P := ⟨_, rfl⟩
        obtain ⟨L, hL⟩ : ∃ L, (if k = 0 then -1 else fr s.bs (k - 1)) = L := ⟨_, rfl⟩
        have HF := Lib.hid hF; have HP := Lib.hid hP; have HL := Lib.hid hL
        rw [hF] at r0; rw [hP] at r1; rw [hL]
        clear hF hP hL hbr
        have j1 : (0 : Int) ≤ (k : Int) := by omega
        have j2 : (k : Int) < (n : Int) := by omega
        have hzb : b < wr.heap.size := by omega
        by_cases hok : okB s.bs k
        · have HOK := Lib.hid hok
          obtain ⟨⟨f1, f2⟩, ⟨p1, p2⟩, o1⟩ := hok
          rw [HF.out] at f1 f2 o1; rw [HP.out] at p1 p2
          have hmy : mny F = true := by simp [mny]; omega
          have hlast : ¬ F ≤ L := by
            have := HL.out
            split at this
            · omega
            · have := o1 (by omega); omega
          clear o1
          go_wp2_with fail
          refine (money1g F (wr.heap.size + 1) (wr.alloc (.cells #[.int .i64 F, .int .i64 P] 160)) (by simp)).mono ?_; rintro e w' ⟨rfl, rfl⟩
          rw [hmy]; clear hmy
          go_wp2_with fail
          go_roundg (n - (k + 1))
          case measure => have := HG.out; omega
          case rel => exact ⟨k + 1, rfl, by omega, by go_num, by rw [if_neg (by omega), Nat.add_sub_cancel, HF.out], fun i hi => (Nat.lt_or_ge i k).elim (HALL.out i) (fun h => by rw [show i = k by omega]; exact HOK.out), HB.out.trans (Below.mono (by repeat' (first | (with_reducible exact Below.refl _ _) | (with_reducible refine Below.alloc ?_ ?_ _) | (with_reducible refine below_drewN ?_ _) | (with_reducible refine Below.drew ?_) | (with_reducible refine Below.setCell ?_ ?_ _) | (with_reducible refine Below.trans ?_ (Below.mono HW0.out ?_)) | (with_reducible refine Below.trans ?_ (Below.mono HW1.out ?_)) | (with_reducible refine Below.trans ?_ (Below.mono HW2.out ?_)) | (with_reducible refine Below.trans ?_ (Below.mono HW3.out ?_)) | (with_reducible refine Below.trans ?_ (Below.mono HW4.out ?_)) | (with_reducible refine Below.trans ?_ (Below.mono HW5.out ?_)) | (with_reducible refine Below.trans ?_ (Below.mono HW6.out ?_)) | (with_reducible refine Below.trans ?_ (Below.mono HW7.out ?_)) | (with_reducible exact Nat.le_refl _) | omega | (simp only [World.size_alloc, World.size_setCell, World.size_drew, size_drewN]; omega) | (simp; done) | (simp; omega))) HB.out.size)⟩
        · have HNO : Hid (okS s = false) := okS_no fun h => hok (h.2.2.2.2.1 k hk')
          have hbad : ¬ mny F = true ∨ mny F = true ∧ (F ≤ L ∨ ¬ F ≤ L ∧ (P < 0 ∨ 10000 < P)) := by
            by_cases hmy : mny F = true
            · refine .inr ⟨hmy, ?_⟩
              by_cases h1 : F ≤ L
              · exact .inl h1
              · refine .inr ⟨h1, ?_⟩
                have hmy' := mny_yes hmy
                by_cases h2 : 0 ≤ P ∧ P ≤ 10000
                · refine absurd ⟨by rw [HF.out]; exact hmy', by rw [HP.out]; exact h2, fun h0 => ?_⟩ hok
                  have := HL.out
                  rw [if_neg (by omega)] at this
                  rw [this, HF.out]; omega
                · omega
            · exact .inl hmy
          clear hok
          rcases hbad with hmy | ⟨hmy, h1 | ⟨h1, h2 | h2⟩⟩
          all_goals
            go_wp2_with fail
            refine (money1g F (wr.heap.size + 1) (wr.alloc (.cells #[.int .i64 F, .int .i64 P] 160)) (by simp)).mono ?_; rintro e w' ⟨rfl, rfl⟩
            first
              | rw [hmy]
              | rw [Bool.eq_false_iff.2 hmy]
            go_wp2_with fail
            all_goals go_ret
            all_goals exact ⟨ret_bool HNO.out.symm, HBT.out.trans (Below.mono (by repeat' (first | (with_reducible exact Below.refl _ _) | (with_reducible refine Below.alloc ?_ ?_ _) | (with_reducible refine below_drewN ?_ _) | (with_reducible refine Below.drew ?_) | (with_reducible refine Below.setCell ?_ ?_ _) | (with_reducible refine Below.trans ?_ (Below.mono HW0.out ?_)) | (with_reducible refine Below.trans ?_ (Below.mono HW1.out ?_)) | (with_reducible refine Below.trans ?_ (Below.mono HW2.out ?_)) | (with_reducible refine Below.trans ?_ (Below.mono HW3.out ?_)) | (with_reducible refine Below.trans ?_ (Below.mono HW4.out ?_)) | (with_reducible refine Below.trans ?_ (Below.mono HW5.out ?_)) | (with_reducible refine Below.trans ?_ (Below.mono HW6.out ?_)) | (with_reducible refine Below.trans ?_ (Below.mono HW7.out ?_)) | (with_reducible exact Nat.le_refl _) | omega | (simp only [World.size_alloc, World.size_setCell, World.size_drew, size_drewN]; omega) | (simp; done) | (simp; omega))) HBT.out.size)⟩
      · have hkn : k = n := by omega
        subst hkn
        have h0' : 0 < s.bs.length := by have := HN.out; omega
        obtain ⟨b, off, rfl, hb, r0, r1⟩ := (HR.out.below (hbr.mono (by omega))).br h0' HN.out
        have hbk2 := blk_below HBK.out hbr (by omega)
        obtain ⟨d0, d1, d2, d3, d4, d5⟩ := cells6 hbk2
        have hzw : w.heap.size < wr.heap.size := by omega
        have r0' : wr.cell? ⟨b, off, none⟩ = some (.int .i64 (fr s.bs 0)) := by simpa using r0
        clear hbk2 r0 r1 hbr
        by_cases hz : fr s.bs 0 = 0
        · have HMY : Hid ((mny s.ded && (mny s.cred && mny s.least)) = okS s) := by
            show _ = _
            rw [Bool.eq_iff_iff]
            constructor
            · intro h
              simp only [Bool.and_eq_true] at h
              exact okS_is ⟨by rw [HN.out]; exact HSC.out.1, HSC.out.2.1, HSC.out.2.2, hz, fun i hi => HALL.out i (by have := HN.out; omega), h.1, h.2.1, h.2.2⟩
            · intro h
              have := okS_yes h
              rw [this.2.2.2.2.2.1, this.2.2.2.2.2.2.1, this.2.2.2.2.2.2.2]; rfl
          rw [hz] at r0'
          go_wp2_with fail
          refine (money3 s.ded s.cred s.least _).mono ?_; rintro e w' ⟨rfl, rfl⟩
          rw [HMY.out]
          go_wp2_with fail
          go_ret
          exact ⟨rfl, HBT.out.trans (Below.mono (by repeat' (first | (with_reducible exact Below.refl _ _) | (with_reducible refine Below.alloc ?_ ?_ _) | (with_reducible refine below_drewN ?_ _) | (with_reducible refine Below.drew ?_) | (with_reducible refine Below.setCell ?_ ?_ _) | (with_reducible refine Below.trans ?_ (Below.mono HW0.out ?_)) | (with_reducible refine Below.trans ?_ (Below.mono HW1.out ?_)) | (with_reducible refine Below.trans ?_ (Below.mono HW2.out ?_)) | (with_reducible refine Below.trans ?_ (Below.mono HW3.out ?_)) | (with_reducible refine Below.trans ?_ (Below.mono HW4.out ?_)) | (with_reducible refine Below.trans ?_ (Below.mono HW5.out ?_)) | (with_reducible refine Below.trans ?_ (Below.mono HW6.out ?_)) | (with_reducible refine Below.trans ?_ (Below.mono HW7.out ?_)) | (with_reducible exact Nat.le_refl _) | omega | (simp only [World.size_alloc, World.size_setCell, World.size_drew, size_drewN]; omega) | (simp; done) | (simp; omega))) HBT.out.size)⟩
        · have HNO : Hid (okS s = false) := okS_no fun h => hz h.2.2.2.1
          have hz' : (fr s.bs 0 == 0) = false := by simpa using hz
          go_wp2_with fail
          go_ret
          exact ⟨ret_bool HNO.out.symm, HBT.out⟩
  · have HNO : Hid (okS s = false) := okS_scal (by rw [hn]; exact hsc)
    have hbad : n < 1 ∨ 10 < n ∨ s.lbp < 0 ∨ 10000 < s.lbp ∨ s.most < 0 ∨ 60 < s.most := by omega
    clear hsc
    rcases hbad with h | h | h | h | h | h
    all_goals
      go_enter Tryz.func171, Tryz.ntmps171
      go_wp2_with fail
      all_goals go_ret
      all_goals exact ⟨ret_bool HNO.out.symm, below_new _ _⟩
end Go.Proofs.YtbjjgnaojoaoiaaGreat
/- rates: taxed, Tax. -/
namespace Go.Proofs.YtbjjgnaojoaoiaaGreat
open Go.RowKit Go
set_option linter.unusedVariables false
set_option linter.unusedSimpArgs false

noncomputable def taxedS (s : Sch) (x : Int) : Int × Int := if okS s && mny x then (partS s x, 0) else (0, 1)
set_option maxHeartbeats 1600000 in
set_option maxRecDepth 100000 in
theorem taxed_any (A : Option Addr) (n c : Nat) (s : Sch) (x : Int) (w : World) (hn : s.bs.length = n) (hr : Rd w w.heap.size 2 A n (brCs s.bs)) :
    Calls Tryz.prog 138 #[schV A n c s, .int .i64 x] w fun e w' => e = .returned (pr (taxedS s x)) ∧ Below w.heap.size w w' := by
  have hb0 := below_new w (schO A n c s)
  have HR := Lib.hid (right_any A n c s _ hn ((hr.below hb0).wider hb0.size))
  have hbk := heap_alloc_new w (schO A n c s)
  have HB0 := Lib.hid hb0
  have hz0 : w.heap.size < (w.alloc (schO A n c s)).heap.size := by simp
  clear hb0 hr hn
  by_cases hok : okS s = true
  · have HOK := okS_yes hok
    by_cases hx : mny x = true
    · have HT : Hid (taxedS s x = (partS s x, 0)) := if_pos (by rw [hok, hx]; rfl)
      have hd := mny_yes HOK.2.2.2.2.2.1
      have hx' := mny_yes hx
      clear HOK
      go_enter Tryz.func138, Tryz.ntmps138
      go_wp2_with fail
      refine HR.out.mono ?_; rintro e w1 ⟨rfl, hw1⟩
      have hbk1 := blk_below hbk hw1 (by simp)
      obtain ⟨d0, d1, d2, d3, d4, d5⟩ := cells6 hbk1
      have HW1 := Lib.hid (HB0.out.trans (hw1.mono (by simp)))
      have hz1 := hw1.size
      simp only [World.size_alloc, Nat.add_one_le_iff] at hz1
      rw [hok]
      clear hw1 hbk1 hok
      go_wp2_with fail
      refine (money1 x w1).mono ?_; rintro e w' ⟨rfl, rfl⟩
      rw [hx]; clear hx
      go_wp2_with fail
      all_goals go_ret2
      all_goals exact ⟨ret_pr (by rw [HT.out]; exact Prod.ext (by show partS s x = _; unfold partS; omega) rfl), HW1.out.trans (Below.mono (below_new _ _) HW1.out.size)⟩
    · have HT : Hid (taxedS s x = (0, 1)) := if_neg (by simp [hx])
      clear HOK
      go_enter Tryz.func138, Tryz.ntmps138
      go_wp2_with fail
      refine HR.out.mono ?_; rintro e w1 ⟨rfl, hw1⟩
      have HW1 := Lib.hid (HB0.out.trans (hw1.mono (by simp)))
      rw [hok]
      clear hw1 hok
      go_wp2_with fail
      refine (money1 x w1).mono ?_; rintro e w' ⟨rfl, rfl⟩
      rw [Bool.eq_false_iff.2 hx]; clear hx
      go_wp2_with fail
      go_ret2
      exact ⟨ret_pr HT.out, HW1.out.trans (Below.mono (below_new _ _) HW1.out.size)⟩
  · have HT : Hid (taxedS s x = (0, 1)) := if_neg (by simp [hok])
    go_enter Tryz.func138, Tryz.ntmps138
    go_wp2_with fail
    refine HR.out.mono ?_; rintro e w1 ⟨rfl, hw1⟩
    have HW1 := Lib.hid (HB0.out.trans (hw1.mono (by simp)))
    rw [Bool.eq_false_iff.2 hok]
    clear hw1 hok
    go_wp2_with fail
    go_ret2
    exact ⟨ret_pr HT.out, HW1.out⟩

set_option maxHeartbeats 3200000 in
set_option maxRecDepth 100000 in
theorem tax_any (A : Option Addr) (n c : Nat) (s : Sch) (x : Int) (w : World) (hn : s.bs.length = n) (hr : Rd w w.heap.size 2 A n (brCs s.bs)) :
    Calls Tryz.prog 88 #[schV A n c s, .int .i64 x] w fun e w' => e = .returned (pr (taxS s x)) ∧ Below w.heap.size w w' := by
  have hb0 := below_new w (schO A n c s)
  have hr0 := (hr.below hb0).wider hb0.size
  have HTX := Lib.hid (taxed_any A n c s x _ hn hr0)
  have hbk := heap_alloc_new w (schO A n c s)
  have HB0 := Lib.hid hb0; have HR0 := Lib.hid hr0; have HN := Lib.hid hn
  have hz0 : w.heap.size < (w.alloc (schO A n c s)).heap.size := by simp
  clear hb0 hr hr0 hn
  by_cases hok : (okS s && mny x) = true
  · have hok' : okS s = true ∧ mny x = true := by simpa using hok
    have HOK := Lib.hid (okS_yes hok'.1)
    have HV := Lib.hid (taxV_bd HOK.out hok'.2)
    have hx' := mny_yes hok'.2
    have HT : Hid (taxS s x = (taxV s x, 0)) := if_pos hok
    have ht : taxedS s x = (partS s x, 0) := if_pos hok
    obtain ⟨P, hP⟩ : ∃ P, partS s x = P := ⟨_, rfl⟩
    rw [hP] at ht
    have HPD : Hid (partS s x = P) := hP
    have hPb : 0 ≤ P ∧ P ≤ 1125899906842624 := by
      have hd := mny_yes HOK.out.2.2.2.2.2.1
      rw [← hP]; unfold partS; omega
    have hcr := mny_yes HOK.out.2.2.2.2.2.2.1
    have hn10 : n ≤ 10 := by have := HOK.out.1.2; have := HN.out; omega
    rw [ht] at HTX
    clear ht hok' hP hok
    go_enter Tryz.func88, Tryz.ntmps88
    go_wp2_with fail
    refine HTX.out.mono ?_; rintro e w1 ⟨rfl, hw1⟩
    have hbk1 := blk_below hbk hw1 (by simp)
    have HR1 := Lib.hid (HR0.out.below hw1)
    have HW1 := Lib.hid (HB0.out.trans (hw1.mono (by simp)))
    have hz1 := hw1.size
    simp only [World.size_alloc, Nat.add_one_le_iff] at hz1
    have HBK := Lib.hid hbk1
    obtain ⟨d0, d1, d2, d3, d4, d5⟩ := cells6 hbk1
    have hsub : IntKind.i64.wrap ((n : Int) - 1) = (n : Int) - 1 := IntWalk.i64_in _ (by omega)
    clear hw1 hbk1 hbk
    go_wp2_with fail
    clear hsub d0 d1 d2 d3 d4 d5
    go_loopg [6, 8, 9, 10] n (fun g v6 v8 v9 v10 wr => ∃ (k u p : Nat) (left : Int), g = k ∧ k ≤ n ∧ v10 = .int .i64 ((k : Int) - 1) ∧ v6 = .int .i64 left ∧ v8 = .int .i64 u ∧ v9 = .int .i64 p ∧ Dn s.bs P k left u p ∧ Below w1.heap.size w1 wr)
    case atStart => exact ⟨n, 0, 0, P, rfl, Nat.le_refl _, rfl, rfl, rfl, rfl, by have := Dn.start (bs := s.bs) (P := P); rwa [HN.out] at this, Below.refl _ _⟩
    case round =>
      obtain ⟨k, u, p, left, hgk, hk, rfl, rfl, rfl, rfl, hdn, hbr⟩ := hrel
      have HG := Lib.hid hgk; have HDN := Lib.hid hdn; have HB := Lib.hid hbr
      have hzr := hbr.size
      have hbd := hdn.bound HOK.out.2.2.2.2.1 HOK.out.2.2.2.1 hPb HOK.out.1.2 (by have := HN.out; omega)
      have hbk2 := blk_below HBK.out hbr (blk_lt HBK.out)
      obtain ⟨d0, d1, d2, d3, d4, d5⟩ := cells6 hbk2
      obtain ⟨⟨l1, l2⟩, ⟨u1, u2⟩, ⟨p1, p2⟩⟩ := hbd
      clear hgk hdn hbk2
      rcases Nat.eq_zero_or_pos k with h0 | h0
      · subst h0
        have HE : Hid ((u : Int) + (p : Int) / 10000 - s.cred = up_ s.bs P s.bs.length / 10000 - s.cred) := by show _ = _; rw [HDN.out.done]
        go_wp2_with fail
        all_goals go_ret2
        all_goals exact ⟨ret_pr (by rw [HT.out]; exact Prod.ext (by show taxV s x = _; rw [taxV, HPD.out, ← HE.out]; omega) rfl), HW1.out.trans (HB.out.mono HW1.out.size)⟩
      · obtain ⟨j, rfl⟩ : ∃ j, k = j + 1 := ⟨k - 1, by omega⟩
        have hj' : j < s.bs.length := by have := HN.out; omega
        obtain ⟨b, off, rfl, hb, r0, r1⟩ := (HR1.out.below (hbr.mono (by simp; omega))).br hj' HN.out
        have hok := HOK.out.2.2.2.2.1 j hj'
        have HSK := Lib.hid (fun h => HDN.out.skip HOK.out.2.2.2.2.1 hj' h)
        have HST := Lib.hid (fun h => HDN.out.step HOK.out.2.2.2.2.1 hj' h)
        have HBD := Lib.hid (fun l u p (d : Dn s.bs P j l u p) => d.bound HOK.out.2.2.2.2.1 HOK.out.2.2.2.1 hPb HOK.out.1.2 (by omega))
        obtain ⟨⟨f1, f2⟩, ⟨q1, q2⟩, _⟩ := hok
        generalize fr s.bs j = F at *
        obtain ⟨q, hq⟩ : ∃ q : Nat, bpA s.bs j = (q : Int) := ⟨(bpA s.bs j).toNat, by omega⟩
        rw [hq] at r1 q1 q2 HST
        have j1 : (0 : Int) ≤ (j : Int) := by omega
        have j2 : (j : Int) < (n : Int) := by omega
        have e1 : ((j + 1 : Nat) : Int) - 1 = (j : Int) := by omega
        rw [e1]
        have s1 : IntKind.i64.wrap ((j : Int) - 1) = (j : Int) - 1 := IntWalk.i64_in _ (by omega)
        have hzb : b < wr.heap.size := by simp at hb; omega
        clear e1 hq hbr
        by_cases hle : left ≤ F
        · have HS := Lib.hid (HSK.out hle)
          go_wp2_with fail
          go_roundg j
          case measure => have := HG.out; omega
          case rel => exact ⟨j, u, p, left, rfl, by omega, rfl, rfl, rfl, rfl, HS.out, HB.out.trans (Below.mono (by repeat' (first | (with_reducible exact Below.refl _ _) | (with_reducible refine Below.alloc ?_ ?_ _) | (with_reducible refine below_drewN ?_ _) | (with_reducible refine Below.drew ?_) | (with_reducible refine Below.setCell ?_ ?_ _) | (with_reducible refine Below.trans ?_ (Below.mono HW0.out ?_)) | (with_reducible refine Below.trans ?_ (Below.mono HW1.out ?_)) | (with_reducible refine Below.trans ?_ (Below.mono HW2.out ?_)) | (with_reducible refine Below.trans ?_ (Below.mono HW3.out ?_)) | (with_reducible refine Below.trans ?_ (Below.mono HW4.out ?_)) | (with_reducible refine Below.trans ?_ (Below.mono HW5.out ?_)) | (with_reducible refine Below.trans ?_ (Below.mono HW6.out ?_)) | (with_reducible refine Below.trans ?_ (Below.mono HW7.out ?_)) | (with_reducible exact Nat.le_refl _) | omega | (simp only [World.size_alloc, World.size_setCell, World.size_drew, size_drewN]; omega) | (simp; done) | (simp; omega))) HB.out.size)⟩
        · have hs := HST.out hle
          have hbd2 := HBD.out _ _ _ hs
          obtain ⟨I, hI⟩ : ∃ I : Nat, left - F = (I : Int) := ⟨(left - F).toNat, by omega⟩
          rw [hI] at hs hbd2
          obtain ⟨X, hX⟩ : ∃ X : Nat, (I : Int) / 10000 * (q : Int) = (X : Int) := ⟨I / 10000 * q, by simp⟩
          obtain ⟨Y, hY⟩ : ∃ Y : Nat, (I : Int) % 10000 * (q : Int) = (Y : Int) := ⟨I % 10000 * q, by simp⟩
          rw [hX, hY] at hs hbd2
          obtain ⟨_, ⟨_, x2⟩, ⟨_, y2⟩⟩ := hbd2
          have hIb : (I : Int) ≤ 1125899906842624 := by omega
          have sI : IntKind.i64.wrap (left - F) = (I : Int) := by rw [IntWalk.i64_in _ (by omega)]; exact hI
          have sX : IntKind.i64.wrap ((I : Int) / 10000 * (q : Int)) = (X : Int) := by rw [hX]; exact IntWalk.i64_in _ (by omega)
          have sY : IntKind.i64.wrap ((I : Int) % 10000 * (q : Int)) = (Y : Int) := by rw [hY]; exact IntWalk.i64_in _ (by omega)
          have HS := Lib.hid hs
          clear hs hI hX hY
          go_wp2_with fail
          go_quiet (fail)
          go_wp2_with fail
          go_roundg j
          case measure => have := HG.out; omega
          case rel => exact ⟨j, u + X, p + Y, F, rfl, by omega, rfl, rfl, by go_num, by go_num, by have := HS.out; simpa using this, HB.out.trans (Below.mono (by repeat' (first | (with_reducible exact Below.refl _ _) | (with_reducible refine Below.alloc ?_ ?_ _) | (with_reducible refine below_drewN ?_ _) | (with_reducible refine Below.drew ?_) | (with_reducible refine Below.setCell ?_ ?_ _) | (with_reducible refine Below.trans ?_ (Below.mono HW0.out ?_)) | (with_reducible refine Below.trans ?_ (Below.mono HW1.out ?_)) | (with_reducible refine Below.trans ?_ (Below.mono HW2.out ?_)) | (with_reducible refine Below.trans ?_ (Below.mono HW3.out ?_)) | (with_reducible refine Below.trans ?_ (Below.mono HW4.out ?_)) | (with_reducible refine Below.trans ?_ (Below.mono HW5.out ?_)) | (with_reducible refine Below.trans ?_ (Below.mono HW6.out ?_)) | (with_reducible refine Below.trans ?_ (Below.mono HW7.out ?_)) | (with_reducible exact Nat.le_refl _) | omega | (simp only [World.size_alloc, World.size_setCell, World.size_drew, size_drewN]; omega) | (simp; done) | (simp; omega))) HB.out.size)⟩
  · have HT : Hid (taxS s x = (0, 1)) := if_neg hok
    have ht : taxedS s x = (0, 1) := if_neg hok
    rw [ht] at HTX
    go_enter Tryz.func88, Tryz.ntmps88
    go_wp2_with fail
    refine HTX.out.mono ?_; rintro e w1 ⟨rfl, hw1⟩
    have HW1 := Lib.hid (HB0.out.trans (hw1.mono (by simp)))
    clear hw1
    go_wp2_with fail
    go_ret2
    exact ⟨ret_pr HT.out, HW1.out⟩
end Go.Proofs.YtbjjgnaojoaoiaaGreat
/- assess.Bill. -/
namespace Go.Proofs.YtbjjgnaojoaoiaaGreat
open Go.RowKit Go
set_option linter.unusedVariables false
set_option linter.unusedSimpArgs false

@[reducible] def blV (b : Bl) : Value := .agg #[.int .i64 b.tax, .int .i64 b.prin, .int .i64 b.pen, .int .i64 b.exc]
/-- What a bill comes to, with its error. -/
@[reducible] def blR (p : Bl × Int) : Value := .tuple #[blV p.1, .int .i64 p.2]
theorem results_row_tmpB {P : Program} {fn : Func} {p q : Tmp} {ty : TypeId} (h : fn.results = #[.cell p ty, .tmp q]) (tmps : Array Value) (w : World) (g : Nat) (t : TypeId) (cs : Array Value) (fr : Nat × Nat) (d : TypeDesc)
    (hp : tmps.getD p undef = .pointer (some ⟨g, 0, none⟩)) (hg : w.heap[g]? = some (.cells cs t fr))
    (hu : P.underlying ty = some d) (hd : (match d with | .struct _ | .array _ _ => true | _ => false) = true) (hi : (P.info? ty).map (·.size) = some cs.size) :
    (results fn tmps).run P w = .ok (.tuple #[.agg cs, tmps.getD q undef]) w := by
  have hp' : tmps[p]?.getD undef = .pointer (some ⟨g, 0, none⟩) := by simpa using hp
  simp [results, h, hp', asAddr, run_loadVar_row w g t ty cs fr d hg hu hd hi]
theorem set4_blkB {w1 : World} {v0 v1 v2 v3 : Value} {t g : Nat} (h : w1.heap[g]? = some (.cells #[v0, v1, v2, v3] t (0, 0))) (u0 u1 u2 u3 : Value) :
    ((((w1.setCell ⟨g, 0, none⟩ u0).setCell ⟨g, 1, none⟩ u1).setCell ⟨g, 2, none⟩ u2).setCell ⟨g, 3, none⟩ u3).heap[g]? = some (.cells #[u0, u1, u2, u3] t (0, 0)) := by
  simp [World.setCell, Array.getElem?_modify, h]
theorem below_set4 {B g : Nat} {w w' : World} (h : Below B w w') (hg : B ≤ g) (u0 u1 u2 u3 : Value) : Below B w ((((w'.setCell ⟨g, 0, none⟩ u0).setCell ⟨g, 1, none⟩ u1).setCell ⟨g, 2, none⟩ u2).setCell ⟨g, 3, none⟩ u3) :=
  (((h.setCell hg _).setCell hg _).setCell hg _).setCell hg _
theorem cells4B {w1 : World} {v0 v1 v2 v3 : Value} {t g : Nat} (h : w1.heap[g]? = some (.cells #[v0, v1, v2, v3] t (0, 0))) :
    w1.cell? ⟨g, 0, none⟩ = some v0 ∧ w1.cell? ⟨g, 1, none⟩ = some v1 ∧ w1.cell? ⟨g, 2, none⟩ = some v2 ∧ w1.cell? ⟨g, 3, none⟩ = some v3 ∧ ∀ i, w1.frozen? ⟨g, i, none⟩ = false := by
  simp [World.cell?, World.frozen?, h]
theorem cells5B {w1 : World} {v0 v1 v2 v3 v4 : Value} {t g : Nat} (h : w1.heap[g]? = some (.cells #[v0, v1, v2, v3, v4] t (0, 0))) :
    w1.cell? ⟨g, 0, none⟩ = some v0 ∧ w1.cell? ⟨g, 1, none⟩ = some v1 ∧ w1.cell? ⟨g, 2, none⟩ = some v2 ∧ w1.cell? ⟨g, 3, none⟩ = some v3 ∧ w1.cell? ⟨g, 4, none⟩ = some v4 := by
  simp [World.cell?, h]
@[reducible] def retO (r : Ret) (t : Nat) : Obj := .cells #[.int .i64 r.per, .int .i64 r.due, .int .i64 r.filed, .int .i64 r.inc, .int .i64 r.wh] t
@[reducible] def blO (a b c d : Int) : Obj := .cells #[.int .i64 a, .int .i64 b, .int .i64 c, .int .i64 d] 85
theorem alloc_blO (w : World) {a b c d a' b' c' d' : Int} (h1 : a = a') (h2 : b = b') (h3 : c = c') (h4 : d = d') : w.alloc (blO a b c d) = w.alloc (blO a' b' c' d') := by subst h1 h2 h3 h4; rfl
/-- What the boxes hold, and where they lie. -/
structure BillBox (w W : World) (A : Option Addr) (n c : Nat) (s : Sch) (r : Ret) : Prop where
  b0 : W.heap[w.heap.size]? = some (schO A n c s)
  b1 : W.heap[w.heap.size + 1]? = some (retO r 37)
  b2 : W.heap[w.heap.size + 2]? = some (blO 0 0 0 0)
  bel : Below w.heap.size w W
theorem BillBox.start (w : World) (A : Option Addr) (n c : Nat) (s : Sch) (r : Ret) : BillBox w (((w.alloc (schO A n c s)).alloc (retO r 37)).alloc (blO 0 0 0 0)) A n c s r :=
  ⟨blk_alloc (blk_alloc (blk_new w _ rfl) _) _, blk_alloc (blk_new _ _ (by simp)) _, blk_new _ _ (by simp), (((Below.refl _ _).alloc (Nat.le_refl _) _).alloc (by simp) _).alloc (by simp; omega) _⟩
theorem BillBox.up {w W W' : World} {A : Option Addr} {n c : Nat} {s : Sch} {r : Ret} (h : BillBox w W A n c s r) (hb : Below W.heap.size W W') : BillBox w W' A n c s r :=
  ⟨blk_below h.b0 hb (blk_lt h.b0), blk_below h.b1 hb (blk_lt h.b1), blk_below h.b2 hb (blk_lt h.b2), h.bel.trans (hb.mono h.bel.size)⟩
theorem simple_fineB {p x : Int} (hp : 0 ≤ p) (hx : 0 ≤ x) (c : Int) : fine p x c := .inl (Int.mul_nonneg hp hx)

set_option maxHeartbeats 3200000 in
set_option maxRecDepth 100000 in
theorem bill_any (A : Option Addr) (n c : Nat) (s : Sch) (r : Ret) (w : World) (hn : s.bs.length = n) (hr : Rd w w.heap.size 2 A n (brCs s.bs)) :
    Calls Tryz.prog 35 #[schV A n c s, retV r] w fun e w' => e = .returned (blR (billS s r)) ∧ Below w.heap.size w w' := by
  have hbx := BillBox.start w A n c s r
  have HTX := Lib.hid (tax_any A n c s r.inc _ hn ((hr.below hbx.bel).wider hbx.bel.size))
  have hz0 : w.heap.size + 2 < (((w.alloc (schO A n c s)).alloc (retO r 37)).alloc (blO 0 0 0 0)).heap.size := by simp
  have HBX := Lib.hid hbx
  clear hn hr hbx
  by_cases hok : (okS s && mny r.inc) = true
  · have hok' : okS s = true ∧ mny r.inc = true := by simpa using hok
    have HOK := Lib.hid (okS_yes hok'.1)
    have ht : taxS s r.inc = (taxV s r.inc, 0) := if_pos hok
    rw [ht] at HTX
    by_cases hrt : retB r = true
    · have HE : Hid (billS s r = (billV s r, 0)) := billS_yes HOK.out hrt
      have HBD := Lib.hid (bill_bd HOK.out hrt)
      have hw := mny_yes (retB_yes hrt).2.2.2.2
      have hd1 := (retB_yes hrt).2.1; have hd2 := (retB_yes hrt).2.2.1
      have HLT := Lib.hid (fun wx => late_any r wx hd1 hd2)
      have htb := taxV_bd HOK.out hok'.2
      obtain ⟨t, htv⟩ : ∃ t, taxV s r.inc = t := ⟨_, rfl⟩
      obtain ⟨p, hpv⟩ : ∃ p, prinV s r = p := ⟨_, rfl⟩
      obtain ⟨x, hxv⟩ : ∃ x, max (r.wh - t) 0 = x := ⟨_, rfl⟩
      have hpt : p = max (t - r.wh) 0 := by rw [← hpv, prinV, htv]
      have HBV : Hid (billV s r = ⟨t, p, penV s p (lateI r), x⟩) := by show _ = _; rw [billV, htv, hpv, hxv]
      rw [htv] at HTX htb
      have hpb : 0 ≤ p ∧ p ≤ 1125899906842624 := by omega
      clear hok hok' ht hd1 hd2 htv hpv
      go_enter Tryz.func35, Tryz.ntmps35
      go_wp2_with fail
      generalize ((w.alloc (schO A n c s)).alloc (retO r 37)).alloc (blO 0 0 0 0) = W at *
      refine HTX.out.mono ?_; rintro e w1 ⟨rfl, hw1⟩
      have HB1 := Lib.hid (HBX.out.up hw1)
      obtain ⟨r0, r1, r2, r3, r4⟩ := cells5B HB1.out.b1
      have hz1 : w.heap.size + 2 < w1.heap.size := blk_lt HB1.out.b2
      clear hw1
      go_wp2_with fail
      refine (aright_any r w1).mono ?_; rintro e w2 ⟨rfl, hw2⟩
      rw [hrt]
      have HB2 := Lib.hid (HB1.out.up hw2)
      obtain ⟨r0, r1, r2, r3, r4⟩ := cells5B HB2.out.b1
      have hz2 : w.heap.size + 2 < w2.heap.size := blk_lt HB2.out.b2
      clear hw2 hrt
      go_upto_region 4 with fail
      go_cut [8] from 27 to 38 (fun v8 wx => v8 = .pointer (some ⟨w2.heap.size, 0, none⟩) ∧ w2.alloc (blO t p 0 x) = wx)
      case first =>
        go_wp2_with fail
        all_goals go_meet
        all_goals exact ⟨rfl, alloc_blO _ (by omega) (by omega) (by omega) (by omega)⟩
      case rest =>
        obtain ⟨rfl, rfl⟩ := hcut
        have HB3 := Lib.hid (HB2.out.up (below_new w2 (blO t p 0 x)))
        have hg3 := heap_alloc_new w2 (blO t p 0 x)
        have hz3 : w2.heap.size < (w2.alloc (blO t p 0 x)).heap.size := by simp
        obtain ⟨g, hg⟩ : ∃ g, g = w2.heap.size := ⟨_, rfl⟩
        rw [← hg] at hg3 hz3
        generalize w2.alloc (blO t p 0 x) = w3 at *
        rw [← hg]
        have hgz : w.heap.size + 2 < g := by omega
        clear hg hxv hpt r0 r1 r2 r3 r4
        obtain ⟨r0, r1, r2, r3, r4⟩ := cells5B HB3.out.b1
        have HG3 := Lib.hid hg3
        have hl0 := lateI_nn r
        obtain ⟨L, hL⟩ : ∃ L, lateI r = L := ⟨_, rfl⟩
        rw [hL] at HBV hl0 HLT
        have hz3' : w.heap.size + 2 < w3.heap.size := by omega
        clear hg3
        go_wp2_with fail
        refine (HLT.out w3).mono ?_; rintro e w4 ⟨rfl, hw4⟩
        have HB4 := Lib.hid (HB3.out.up hw4)
        have hg4 := blk_below HG3.out hw4 hz3
        obtain ⟨q0, q1, q2, q3, q4⟩ := cells4B hg4
        obtain ⟨s0, s1, s2, s3, s4, s5⟩ := cells6 HB4.out.b0
        obtain ⟨o0, o1, o2, o3, o4⟩ := cells4B HB4.out.b2
        have hz4 : g < w4.heap.size := blk_lt hg4
        have HG4 := Lib.hid hg4
        clear hw4 hg4 r0 r1 r2 r3 r4 HLT
        by_cases hc : 0 < p ∧ 0 < L
        · skip
          have hrb := rate_bd HOK.out hl0
          have hpp := pen_prod HOK.out hpb hl0
          have hls := mny_yes HOK.out.2.2.2.2.2.2.2
          obtain ⟨X, hX⟩ : ∃ X, s.lbp * min L s.most = X := ⟨_, rfl⟩
          rw [hX] at hrb hpp
          obtain ⟨N, hN⟩ : ∃ N, p * X / 10000 = N := ⟨_, rfl⟩
          have hNb : 0 ≤ N ∧ N ≤ 67553994410557440 := by omega
          have HP : Hid (penV s p L = min (max N s.least) p) := by show _ = _; rw [penV, if_pos hc, hX, hN]
          have HMD := Lib.hid (mulDiv_any p X 10000 w4 (simple_fineB hpb.1 hrb.1 _))
          have HMV : Hid (mulDivS p X 10000 = (N, 0)) := by
            show _ = _
            have a1 : amt p = true := by simp [amt]; omega
            have a2 : amt X = true := by simp [amt]; omega
            have a3 : amt 10000 = true := by decide
            have a4 : amt N = true := by simp [amt]; omega
            rw [mulDivS, a1, a2, a3, hN]; exact told_yes a4
          obtain ⟨hc1, hc2⟩ := hc
          clear hpp hN
          have hsX : IntKind.i64.wrap (s.lbp * min L s.most) = X := by rw [IntWalk.i64_in _ (by rw [hX]; omega)]; exact hX
          clear hX
          go_wp2_with fail
          refine HMD.out.mono ?_; rintro e w5 ⟨rfl, hw5⟩
          have HB5 := Lib.hid (HB4.out.up hw5)
          have hg5 := blk_below HG4.out hw5 hz4
          obtain ⟨q0, q1, q2, q3, q4⟩ := cells4B hg5
          obtain ⟨s0, s1, s2, s3, s4, s5⟩ := cells6 HB5.out.b0
          obtain ⟨o0, o1, o2, o3, o4⟩ := cells4B HB5.out.b2
          have hz5 : g < w5.heap.size := blk_lt hg5
          have hz6 : w.heap.size + 2 < w5.heap.size := by omega
          have hgne : w.heap.size + 2 ≠ g := by omega
          have hgne' : g ≠ w.heap.size + 2 := by omega
          have HG5 := Lib.hid hg5
          have HFAR := Lib.hid (fun u => blk_far (p := ⟨g, 2, none⟩) HB5.out.b2 hgne u)
          have HSET := Lib.hid (fun u => blk_set HG5.out 2 u)
          clear hw5 hg5
          rw [HMV.out]
          go_wp2_with fail
          refine bodyPost_ret (results_row_tmpB rfl _ _ (w.heap.size + 2) 85 #[.int .i64 t, .int .i64 p, .int .i64 (min (max N s.least) p), .int .i64 x] (0, 0) _ (by rfl) (set4_blkB (HFAR.out _) _ _ _ _) Tryz.underlying85 rfl (by kernel_rfl)) rfl ?_
          exact ⟨by rw [HE.out, HBV.out, HP.out]; rfl, below_set4 (HB5.out.bel.setCell (by show w.heap.size ≤ g; omega) _) (by omega) _ _ _ _⟩
        · have HP : Hid (penV s p L = 0) := if_neg hc
          by_cases hp0 : 0 < p
          · have hL0 : ¬ 0 < L := fun h => hc ⟨hp0, h⟩
            clear hc
            go_wp2_with fail
            refine bodyPost_ret (results_row_tmpB rfl _ _ (w.heap.size + 2) 85 #[.int .i64 t, .int .i64 p, .int .i64 0, .int .i64 x] (0, 0) _ (by rfl) (set4_blkB HB4.out.b2 _ _ _ _) Tryz.underlying85 rfl (by kernel_rfl)) rfl ?_
            exact ⟨by rw [HE.out, HBV.out, HP.out]; rfl, below_set4 HB4.out.bel (by omega) _ _ _ _⟩
          · clear hc
            go_wp2_with fail
            refine bodyPost_ret (results_row_tmpB rfl _ _ (w.heap.size + 2) 85 #[.int .i64 t, .int .i64 p, .int .i64 0, .int .i64 x] (0, 0) _ (by rfl) (set4_blkB HB4.out.b2 _ _ _ _) Tryz.underlying85 rfl (by kernel_rfl)) rfl ?_
            exact ⟨by rw [HE.out, HBV.out, HP.out]; rfl, below_set4 HB4.out.bel (by omega) _ _ _ _⟩
    · have HE : Hid (billS s r = (Bl.zero, 1)) := billS_no2 hrt
      clear hok hok' ht
      go_enter Tryz.func35, Tryz.ntmps35
      go_wp2_with fail
      generalize ((w.alloc (schO A n c s)).alloc (retO r 37)).alloc (blO 0 0 0 0) = W at *
      refine HTX.out.mono ?_; rintro e w1 ⟨rfl, hw1⟩
      have HB1 := Lib.hid (HBX.out.up hw1)
      obtain ⟨r0, r1, r2, r3, r4⟩ := cells5B HB1.out.b1
      have hz1 : w.heap.size + 2 < w1.heap.size := blk_lt HB1.out.b2
      clear hw1
      go_wp2_with fail
      refine (aright_any r w1).mono ?_; rintro e w2 ⟨rfl, hw2⟩
      rw [Bool.eq_false_iff.2 hrt]
      have HB2 := Lib.hid (HB1.out.up hw2)
      obtain ⟨o0, o1, o2, o3, o4⟩ := cells4B HB2.out.b2
      have hz2 : w.heap.size + 2 < w2.heap.size := blk_lt HB2.out.b2
      clear hw2 hrt r0 r1 r2 r3 r4
      go_wp2_with fail
      refine bodyPost_ret (results_row_tmpB rfl _ _ (w.heap.size + 2) 85 #[.int .i64 0, .int .i64 0, .int .i64 0, .int .i64 0] (0, 0) _ (by rfl) (set4_blkB HB2.out.b2 _ _ _ _) Tryz.underlying85 rfl (by kernel_rfl)) rfl ?_
      exact ⟨by rw [HE.out]; rfl, below_set4 HB2.out.bel (by omega) _ _ _ _⟩
  · have ht : taxS s r.inc = (0, 1) := if_neg hok
    rw [ht] at HTX
    have HE : Hid (billS s r = (Bl.zero, 1)) := by
      show _ = _
      by_cases h1 : okS s = true
      · exact billS_no2 (fun h2 => hok (by rw [h1, (retB_yes h2).2.2.2.1]; rfl))
      · exact billS_no1 (fun h2 => h1 (okS_is h2))
    clear hok ht
    go_enter Tryz.func35, Tryz.ntmps35
    go_wp2_with fail
    generalize ((w.alloc (schO A n c s)).alloc (retO r 37)).alloc (blO 0 0 0 0) = W at *
    refine HTX.out.mono ?_; rintro e w1 ⟨rfl, hw1⟩
    have HB1 := Lib.hid (HBX.out.up hw1)
    obtain ⟨o0, o1, o2, o3, o4⟩ := cells4B HB1.out.b2
    have hz1 : w.heap.size + 2 < w1.heap.size := blk_lt HB1.out.b2
    clear hw1
    go_wp2_with fail
    refine bodyPost_ret (results_row_tmpB rfl _ _ (w.heap.size + 2) 85 #[.int .i64 0, .int .i64 0, .int .i64 0, .int .i64 0] (0, 0) _ (by rfl) (set4_blkB HB1.out.b2 _ _ _ _) Tryz.underlying85 rfl (by kernel_rfl)) rfl ?_
    exact ⟨by rw [HE.out]; rfl, below_set4 HB1.out.bel (by omega) _ _ _ _⟩
end Go.Proofs.YtbjjgnaojoaoiaaGreat
/- An account: plain words, and how it lies in memory. -/
namespace Go.Proofs.YtbjjgnaojoaoiaaGreat
open Go.RowKit Go
set_option linter.unusedVariables false
set_option linter.unusedSimpArgs false

/-- A period: its return, what is open of each kind, since, done, accrued. -/
structure Per where
  ret : Ret
  o0 : Int
  o1 : Int
  o2 : Int
  since : Int
  done : Int
  acc : Int
/-- A payment. -/
structure Pm where
  id : Int
  day : Int
  amt : Int
  parts : List Dq
  rest : Int
  rev : Bool
/-- An account. -/
structure Ac where
  day : Int
  bp : Int
  cr : Int
  ps : List Per
  ms : List Pm
/-- A move: charges, paid, credit, cash. -/
structure Mv where
  c0 : Int
  c1 : Int
  c2 : Int
  paid : Int
  cr : Int
  cash : Int
def Mv.zero : Mv := ⟨0, 0, 0, 0, 0, 0⟩
def perC (p : Per) : List Value := [.int .i64 p.ret.per, .int .i64 p.ret.due, .int .i64 p.ret.filed, .int .i64 p.ret.inc, .int .i64 p.ret.wh, .int .i64 p.o0, .int .i64 p.o1, .int .i64 p.o2, .int .i64 p.since, .int .i64 p.done, .int .i64 p.acc]
def perCs (ps : List Per) : List Value := ps.flatMap perC
@[reducible] def perV (p : Per) : Value := .agg #[.int .i64 p.ret.per, .int .i64 p.ret.due, .int .i64 p.ret.filed, .int .i64 p.ret.inc, .int .i64 p.ret.wh, .int .i64 p.o0, .int .i64 p.o1, .int .i64 p.o2, .int .i64 p.since, .int .i64 p.done, .int .i64 p.acc]
@[reducible] def mvV (m : Mv) : Value := .agg #[.int .i64 m.c0, .int .i64 m.c1, .int .i64 m.c2, .int .i64 m.paid, .int .i64 m.cr, .int .i64 m.cash]
/-- What a step hands back. -/
@[reducible] def mvR (m : Mv) (e : Int) : Value := .tuple #[mvV m, .int .i64 e]
/-- A payment, with the slice of its parts. -/
structure PmE where
  p : Pm
  v : Value
def pmC (q : PmE) : List Value := [.int .i64 q.p.id, .int .i64 q.p.day, .int .i64 q.p.amt, q.v, .int .i64 q.p.rest, .bool q.p.rev]
def pmCs (qs : List PmE) : List Value := qs.flatMap pmC

def itemsP (p : Per) : List Dq := [⟨p.ret.due, 0, p.ret.per, p.o0⟩, ⟨p.ret.due, 1, p.ret.per, p.o1⟩, ⟨p.ret.due, 2, p.ret.per, p.o2⟩]
def itemsOf (ps : List Per) : List Dq := ps.flatMap itemsP
theorem itemsOf_len (ps : List Per) : (itemsOf ps).length = ps.length * 3 := by
  unfold itemsOf
  induction ps with
  | nil => rfl
  | cons p ps ih => rw [List.flatMap_cons, List.length_append, ih, List.length_cons, Nat.succ_mul]; simp [itemsP]; omega
theorem itemsOf_take {ps : List Per} {k : Nat} (h : k < ps.length) : itemsOf (ps.take (k + 1)) = itemsOf (ps.take k) ++ itemsP ps[k] := by
  unfold itemsOf
  rw [List.take_succ_eq_append_getElem h, List.flatMap_append]; simp
/-- Is nothing open of it? -/
def nil0 (x : Dq) : Bool := decide (x.opn = 0)
def live (l : List Dq) : List Dq := l.filter fun x => !nil0 x
/-- Rows of elements of k cells each. -/
theorem flat_len {α : Type} {c : α → List Value} {k : Nat} (hc : ∀ x, (c x).length = k) (l : List α) : (l.flatMap c).length = l.length * k := by
  induction l with
  | nil => simp
  | cons x l ih => rw [List.flatMap_cons, List.length_append, ih, hc, List.length_cons, Nat.succ_mul]; omega
theorem flat_split {α : Type} (c : α → List Value) {l : List α} {i : Nat} (h : i < l.length) : l.flatMap c = (l.take i).flatMap c ++ (c l[i] ++ (l.drop (i + 1)).flatMap c) := by
  conv => lhs; rw [← List.take_append_drop i l, List.drop_eq_getElem_cons h]
  rw [List.flatMap_append, List.flatMap_cons]
theorem flat_at {α : Type} {c : α → List Value} {k : Nat} (hc : ∀ x, (c x).length = k) {l : List α} {i j : Nat} (h : i < l.length) (hj : j < k) : (l.flatMap c)[i * k + j]? = (c l[i])[j]? := by
  have h1 : (l.take i).length = i := by rw [List.length_take]; omega
  have h2 := flat_len hc (l.take i)
  rw [h1] at h2
  rw [flat_split c h, List.getElem?_append_right (by omega), h2, show i * k + j - i * k = j by omega, List.getElem?_append_left (by rw [hc]; exact hj)]
theorem flat_set {α : Type} {c : α → List Value} {k : Nat} (hc : ∀ x, (c x).length = k) {l : List α} {i j : Nat} (h : i < l.length) (hj : j < k) {u : Value} {y : α} (hy : (c l[i]).set j u = c y) : (l.flatMap c).set (i * k + j) u = (l.set i y).flatMap c := by
  have h1 : (l.take i).length = i := by rw [List.length_take]; omega
  have h2 := flat_len hc (l.take i)
  rw [h1] at h2
  rw [flat_split c h, flat_split c (l := l.set i y) (i := i) (by simpa using h), List.set_append_right _ _ (by omega), h2, show i * k + j - i * k = j by omega, List.set_append_left _ _ (by rw [hc]; exact hj), hy]
  simp [List.take_set_of_le, List.drop_set_of_lt]
theorem perC_len (p : Per) : (perC p).length = 11 := rfl
theorem pmC_len (q : PmE) : (pmC q).length = 6 := rfl
theorem perCs_len (ps : List Per) : (perCs ps).length = ps.length * 11 := flat_len perC_len ps
theorem pmCs_len (qs : List PmE) : (pmCs qs).length = qs.length * 6 := flat_len pmC_len qs
theorem perCs_at {ps : List Per} {i j : Nat} (h : i < ps.length) (hj : j < 11) : (perCs ps)[i * 11 + j]? = (perC ps[i])[j]? := flat_at perC_len h hj
theorem pmCs_at {qs : List PmE} {i j : Nat} (h : i < qs.length) (hj : j < 6) : (pmCs qs)[i * 6 + j]? = (pmC qs[i])[j]? := flat_at pmC_len h hj
theorem perCs_app (a b : List Per) : perCs (a ++ b) = perCs a ++ perCs b := by simp [perCs]
theorem pmCs_app (a b : List PmE) : pmCs (a ++ b) = pmCs a ++ pmCs b := by simp [pmCs]

/-- A payment's parts, as they lie: in a block of items, at its begin. -/
def PartsAt (w : World) (v : Value) (l : List Dq) : Prop := ∃ A c, v = .slice A l.length c ∧ l.length ≤ c ∧ c ≤ maxLen ∧
  (0 < l.length → ∃ b cs, A = some ⟨b, 0, none⟩ ∧ w.heap[b]? = some (.cells cs 58 (0, 0)) ∧ cs.toList.take (l.length * 4) = itCs l)
/-- How an account lies: its own cells, its rows. -/
structure OwnV (w : World) (B g : Nat) (S : Ac) (vp vq : Value) (qs : List PmE) : Prop where
  hg : w.heap[g]? = some (.cells #[.int .i64 S.day, .int .i64 S.bp, .int .i64 S.cr, vp, vq] 83 (0, 0))
  hB : B ≤ g
  hp : w.ownsRow B 92 11 vp S.ps.length (perCs S.ps)
  hq : w.ownsRow B 110 6 vq S.ms.length (pmCs qs)
  hm : qs.map PmE.p = S.ms
  parts : ∀ q ∈ qs, PartsAt w q.v q.p.parts
def OwnAt (w : World) (B g : Nat) (S : Ac) : Prop := ∃ vp vq qs, OwnV w B g S vp vq qs

theorem PartsAt.keep {w w' : World} {v : Value} {l : List Dq} (h : PartsAt w v l) (hk : ∀ (b : Nat) (cs : Array Value), w.heap[b]? = some (.cells cs 58 (0, 0)) → w'.heap[b]? = w.heap[b]?) : PartsAt w' v l := by
  obtain ⟨A, c, e, h1, h2, h3⟩ := h
  refine ⟨A, c, e, h1, h2, fun h0 => ?_⟩
  obtain ⟨b, cs, e1, e2, e3⟩ := h3 h0
  exact ⟨b, cs, e1, (hk b cs e2).trans e2, e3⟩
theorem PartsAt.rd {w : World} {A : Option Addr} {n c : Nat} {l : List Dq} (h : PartsAt w (.slice A n c) l) : n = l.length ∧ n ≤ c ∧ c ≤ maxLen ∧ Rd w w.heap.size 4 A n (itCs l) := by
  obtain ⟨A', c', e, h1, h2, h3⟩ := h
  injection e with e1 e2 e3
  subst e1 e2 e3
  refine ⟨rfl, h1, h2, itCs_len l, fun h0 => ?_⟩
  obtain ⟨b, cs, e1, e2, e3⟩ := h3 h0
  refine ⟨b, 0, e1, blk_lt e2, fun j hj => ?_⟩
  rw [blk_cell e2, ← e3, Nat.zero_add, List.getElem?_take, if_pos hj, Array.getElem?_toList]
theorem PartsAt.of_own {w : World} {B : Nat} {v : Value} {l : List Dq} (h : w.ownsRow B 58 4 v l.length (itCs l)) : PartsAt w v l := by
  rcases h.2 with ⟨rfl, hn⟩ | ⟨g, cap, cur, rfl, e2, e3, e4, e5, e6, e7⟩
  · exact ⟨none, 0, by rw [hn], by omega, by simp, fun h0 => by omega⟩
  · exact ⟨_, cap, rfl, e4, e5, fun _ => ⟨g, cur, rfl, e3, e7⟩⟩
theorem PartsAt.form {w : World} {v : Value} {l : List Dq} (h : PartsAt w v l) : ∃ A c, v = .slice A l.length c := let ⟨A, c, e, _⟩ := h; ⟨A, c, e⟩
theorem PartsAt.below {w w' : World} {v : Value} {l : List Dq} (h : PartsAt w v l) (hb : Below w.heap.size w w') : PartsAt w' v l := h.keep fun b cs hc => hb.block b (blk_lt hc)

theorem ne_of_type' {w : World} {b g : Nat} {cs cs' : Array Value} {t t' : Nat} {f f' : Nat × Nat} (h : w.heap[b]? = some (.cells cs t f)) (h' : w.heap[g]? = some (.cells cs' t' f')) (ht : t ≠ t') : b ≠ g := by
  intro e; subst e; rw [h] at h'; injection h' with h'; injection h' with _ h' _; exact ht h'
theorem OwnV.below {w w' : World} {B g : Nat} {S : Ac} {vp vq : Value} {qs : List PmE} (h : OwnV w B g S vp vq qs) (hb : Below w.heap.size w w') : OwnV w' B g S vp vq qs :=
  ⟨blk_below h.hg hb (blk_lt h.hg), h.hB, own_below h.hp hb, own_below h.hq hb, h.hm, fun q hq => (h.parts q hq).below hb⟩
theorem OwnV.mono {w : World} {B B' g : Nat} {S : Ac} {vp vq : Value} {qs : List PmE} (h : OwnV w B g S vp vq qs) (hB : B' ≤ B) : OwnV w B' g S vp vq qs :=
  ⟨h.hg, Nat.le_trans hB h.hB, own_mono h.hp hB, own_mono h.hq hB, h.hm, h.parts⟩
theorem OwnV.len {w : World} {B g : Nat} {S : Ac} {vp vq : Value} {qs : List PmE} (h : OwnV w B g S vp vq qs) : qs.length = S.ms.length := by rw [← h.hm, List.length_map]
theorem OwnV.at_ {w : World} {B g : Nat} {S : Ac} {vp vq : Value} {qs : List PmE} (h : OwnV w B g S vp vq qs) {i : Nat} (hi : i < S.ms.length) : qs[i]'(by rw [h.len]; exact hi) = ⟨S.ms[i], (qs[i]'(by rw [h.len]; exact hi)).v⟩ := by
  have := h.hm
  have h2 : S.ms[i] = (qs[i]'(by rw [h.len]; exact hi)).p := by
    subst_vars
    simp [← this]
  rw [h2]
theorem OwnAt.below {w w' : World} {B g : Nat} {S : Ac} (h : OwnAt w B g S) (hb : Below w.heap.size w w') : OwnAt w' B g S := let ⟨vp, vq, qs, h⟩ := h; ⟨vp, vq, qs, h.below hb⟩
theorem OwnAt.mono {w : World} {B B' g : Nat} {S : Ac} (h : OwnAt w B g S) (hB : B' ≤ B) : OwnAt w B' g S := let ⟨vp, vq, qs, h⟩ := h; ⟨vp, vq, qs, h.mono hB⟩
/-- A period, as it lies at an address. -/
structure PerAt (w : World) (b off : Nat) (p : Per) : Prop where
  c : ∀ j, j < 11 → w.cell? ⟨b, off + j, none⟩ = (perC p)[j]?
  f : ∀ j, j < 11 → w.frozen? ⟨b, off + j, none⟩ = false
theorem OwnV.per {w : World} {B g : Nat} {S : Ac} {vp vq : Value} {qs : List PmE} (h : OwnV w B g S vp vq qs) {i : Nat} (hi : i < S.ps.length) : ∃ gp cap, vp = .slice (some ⟨gp, 0, none⟩) S.ps.length cap ∧ gp < w.heap.size ∧ B ≤ gp ∧ PerAt w gp (i * 11) S.ps[i] := by
  obtain ⟨gp, cap, rfl, hb, hlt⟩ := h.hp.form (by omega)
  have key : ∀ j, j < 11 → ∃ u, (perC S.ps[i])[j]? = some u ∧ w.cell? ⟨gp, i * 11 + j, none⟩ = some u ∧ w.frozen? ⟨gp, i * 11 + j, none⟩ = false := fun j hj => by
    have e := perCs_at hi hj
    have e2 : (perC S.ps[i])[j]? = some ((perC S.ps[i])[j]'hj) := List.getElem?_eq_getElem hj
    exact ⟨_, e2, own_cell h.hp (e.trans e2)⟩
  refine ⟨gp, cap, rfl, hlt, hb, ⟨fun j hj => ?_, fun j hj => ?_⟩⟩
  · obtain ⟨u, e1, e2, _⟩ := key j hj
    rw [e1, e2]
  · obtain ⟨u, e1, e2, e3⟩ := key j hj
    exact e3
end Go.Proofs.YtbjjgnaojoaoiaaGreat
