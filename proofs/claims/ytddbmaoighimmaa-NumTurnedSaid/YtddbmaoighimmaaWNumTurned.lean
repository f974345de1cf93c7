/- The walk of NumTurned. -/
import Derived.Test.YtddbmaoighimmaaL0
import Derived.KernelRfl
namespace Go.Proofs.Ytddbmaoighimmaa
open Go.RowKit Go
set_option linter.unusedVariables false
set_option linter.unusedSimpArgs false

theorem info_i64 : (Try.prog.info? 2).map (fun i => (i.zero, i.size, i.bytes)) = some (some (.int .i64 0), 1, 8) := by kernel_rfl

theorem own0 (w : World) (B t n : Nat) {k : Nat} {L : List Int} (h : n - k = 0) (hm : L.length ≤ k) : w.ownsRow B t 1 (.slice none 0 0) (n - k) (ints (L.drop k).reverse) := by
  rw [h, List.drop_eq_nil_of_le hm]; exact World.ownsRow_nil w B t 1
theorem sumS_rev (L : List Int) : sumS L.reverse = sumS L := by simp [sumS]
theorem sumS_more {x : Int} (L : List Int) (h : amt x = true) (h2 : amt (-x) = true) : sumS (x :: (L ++ [-x])) = sumS L := by
  have e : (x :: (L ++ [-x])).sum = L.sum := by simp [List.sum_append]; omega
  simp [sumS, h, h2]; rw [show x + (L.sum + -x) = L.sum by omega]
theorem sumS_bad {x : Int} (L : List Int) (h : ¬ amt x = true) : sumS (x :: L) = (0, 1) := by simp [sumS, h]

set_option maxHeartbeats 800000 in
theorem numTurned_walk (A : Option Addr) (zs : List Int) (x : Int) (c : Nat) (w : World) (hr : Rd w w.heap.size 1 A zs.length (ints zs)) (hm : zs.length ≤ maxLen) (hcap : zs.length ≤ c) (hx : -9223372036854775808 ≤ x ∧ x ≤ 9223372036854775807) :
    Calls Try.prog 4 #[.slice A zs.length c, .int .i64 x] w fun e w' => e = .returned (.bool true) ∧ Below w.heap.size w w' := by
  unfold maxLen at hm
  obtain ⟨i0, hi, hz0, hz1', hz2⟩ := info_parts info_i64
  go_enter Try.func4, Try.ntmps4
  go_wp2_with fail
  refine (awake_any w).mono ?_; rintro e w1 ⟨rfl, hw1⟩
  have hr1 := (hr.below hw1).wider hw1.size
  obtain ⟨hc1, hf1⟩ := bcell hw1; have hz1 := hw1.size; (try simp only [World.size_alloc, World.size_setCell, World.size_drew, size_drewN, Nat.add_one_le_iff] at hz1); (try have hy1 : w.heap.size < w1.heap.size := by omega); (try have hx1 : w.heap.size + 1 < w1.heap.size := by omega); have HW1 := Lib.hid hw1; clear hw1
  by_cases h : zs.length ≤ 1000
  · have hr1' := hr1
    have HL := Lib.hid (show zs = zs.take 1000 by rw [List.take_of_length_le h])
    go_wp2_with fail
    go_loopw [7, 9] (fun v i wr => ∃ q : Int, -1 ≤ q ∧ q < (zs.length : Nat) ∧ i = .int .i64 q ∧ wr.ownsRow w1.heap.size 2 1 v (zs.length - (q + 1).toNat) (ints (zs.drop (q + 1).toNat).reverse) ∧ Below w1.heap.size w1 wr) (fun _ i _ => (intOf i + 1).toNat)
    case atStart => exact ⟨(zs.length : Nat) - 1, by omega, by omega, rfl, own0 w1 _ _ _ (by omega) (by omega), Below.refl _ _⟩
    case round =>
      obtain ⟨q, hq0, hq1, rfl, hown, hbr⟩ := hrel
      by_cases hq : 0 ≤ q
      · obtain ⟨j, rfl⟩ := Int.eq_ofNat_of_zero_le hq
        have hj : j < zs.length := by omega
        have hj' : j < zs.length := by omega
        obtain ⟨b, off, rfl, hb, hc⟩ := hr1'.2 (by omega)
        have hcell := (hbr.cell (p := ⟨b, off + j, none⟩) hb).trans ((hc j (by omega)).trans (ints_at zs j hj'))
        have HBR := Lib.hid hbr
        have hzr := hbr.size
        have HO := Lib.hid hown
        clear hc hbr hown
        go_wp2_with (at_builtin; refine wpList_app rfl (.tmp 26) (.tmp 31) _ rfl w1.heap.size 2 i0 _ 1 8 Try.underlying22 hi hz0 hz1' hz2 rfl (by omega) _ _ _ rfl (HO.out.alloc _) _ _ 1 1 [.int .i64 zs[j]] rfl (Rd.fresh _ #[.int .i64 zs[j]] 2 1 1 rfl) (by simp [Value.oneCell']) (by unfold maxLen; omega) (by omega) (by simp; omega) ?_; intro v2 w2 hown2 hg2 hat2)
        refine ⟨⟨(j : Int) - 1, by omega, by omega, by go_num, ?_, ?_⟩, by first | (simp [intOf]; done) | (simp [intOf]; omega)⟩
        · have e1 : ((j : Int) - 1 + 1).toNat = j := by omega
          have e2 : ((j : Int) + 1).toNat = j + 1 := by omega
          have e3 : zs.length - (j + 1) + 1 = zs.length - j := by omega
          rw [e1]; rw [e2, e3] at hown2
          have e4 : ints (zs.drop j).reverse = ints (zs.drop (j + 1)).reverse ++ [.int .i64 zs[j]] := by
            rw [List.drop_eq_getElem_cons hj', List.reverse_cons]; simp only [ints, List.map_append, List.map_cons, List.map_nil]
          rw [e4]; exact hown2
        · exact (HBR.out.alloc hzr _).grown hg2 (by simp; omega) (fun k hk => (HO.out.lt k hk).1)
      · obtain rfl : q = -1 := by omega
        have hown' : wr.ownsRow w1.heap.size 2 1 u7 (zs.length) (ints zs.reverse) := by
          have e1 : ((-1 : Int) + 1).toNat = 0 := rfl
          rw [e1, Nat.sub_zero, List.drop_zero] at hown; exact hown
        clear hown
        obtain ⟨A2, c2, rfl, _⟩ := own_form hown'
        have hrt := Rd.of_own hown'
        have HBR := Lib.hid hbr
        have hzr := hbr.size
        have HO := Lib.hid hown'
        clear hbr hown'
        by_cases hax : amt x = true
        · have hx2 := amt_yes hax
          have hay : amt (-x) = true := by simp [amt]; omega
          have HAX := Lib.hid hax; clear hax
          have HAY := Lib.hid hay; clear hay
          go_wp2_with (first
            | (at_builtin; refine wpList_app rfl (.tmp 33) (.tmp 35) _ rfl wr.heap.size 2 i0 _ 1 8 Try.underlying22 hi hz0 hz1' hz2 rfl (by omega) (.slice none 0 0) 0 [] rfl (World.ownsRow_nil _ _ _ 1) _ _ 1 1 [.int .i64 x] rfl (Rd.fresh _ #[.int .i64 x] 2 1 1 rfl) (by simp [Value.oneCell']) (by unfold maxLen; omega) (by omega) (by simp) ?_; intro v3 w3 hown3 hg3 hat3; have hb3 : Below wr.heap.size wr w3 := ((Below.refl _ _).alloc (Nat.le_refl _) _).grown hg3 (by simp) (fun k hk => ((World.ownsRow_nil wr wr.heap.size 0 1).lt k hk).1); have HB3 := Lib.hid hb3; have HO3 := Lib.hid hown3; clear hown3 hg3 hat3 hb3)
            | (at_builtin; refine wpList_app rfl (.tmp 37) (.tmp 40) _ rfl wr.heap.size 2 i0 _ 1 8 Try.underlying22 hi hz0 hz1' hz2 rfl (by omega) _ _ _ rfl HO3.out _ A (zs.length) c (ints zs) rfl (hr1'.below (HBR.out.trans (HB3.out.mono hzr))) (ints_oneCell _ _) (by unfold maxLen; omega) (by omega) HB3.out.size ?_; intro v4 w4 hown4 hg4 hat4; have hb4 : Below wr.heap.size wr w4 := HB3.out.grown hg4 HB3.out.size (fun k hk => (HO3.out.lt k hk).1); have HB4 := Lib.hid hb4; have HO4 := Lib.hid hown4; clear hown4 hg4 hat4 hb4)
            | (at_builtin; refine wpList_app rfl (.tmp 42) (.tmp 45) _ rfl wr.heap.size 2 i0 _ 1 8 Try.underlying22 hi hz0 hz1' hz2 rfl (by omega) _ _ _ rfl (HO4.out.alloc _) _ _ 1 1 [.int .i64 (-x)] rfl (Rd.fresh _ #[.int .i64 (-x)] 2 1 1 rfl) (by simp [Value.oneCell']) (by unfold maxLen; omega) (by omega) (by have := HB4.out.size; simp; omega) ?_; intro v5 w5 hown5 hg5 hat5; have hb5 : Below wr.heap.size wr w5 := (HB4.out.alloc HB4.out.size _).grown hg5 (by have := HB4.out.size; simp; omega) (fun k hk => (HO4.out.lt k hk).1); have HB5 := Lib.hid hb5; obtain ⟨A5, c5, rfl, hm5⟩ := own_form hown5; have HO5 := Lib.hid hown5; clear hown5 hg5 hat5 hb5))
          have hb5 : Below w1.heap.size w1 w5 := HBR.out.trans (HB5.out.mono hzr)
          have hz5 := hb5.size
          refine (sum_n A (zs.length) c zs w5 ((hr1'.below hb5).wider hz5) (by omega)).mono ?_; rintro e w6 ⟨rfl, hw6⟩
          have hrt6 := (hrt.below (HB5.out.trans (hw6.mono HB5.out.size))).wider (Nat.le_trans HB5.out.size hw6.size)
          have HR5 := Lib.hid ((Rd.of_own HO5.out).below hw6)
          clear hb5
          obtain ⟨hc6, hf6⟩ := bcell hw6; have hz6 := hw6.size; (try simp only [World.size_alloc, World.size_setCell, World.size_drew, size_drewN, Nat.add_one_le_iff] at hz6); (try have hy6 : w.heap.size < w6.heap.size := by omega); (try have hx6 : w.heap.size + 1 < w6.heap.size := by omega); have HW6 := Lib.hid hw6; clear hw6
          go_wp2_with fail
          refine (sum_n A2 (zs.length) c2 zs.reverse w6 hrt6 (by omega)).mono ?_; rintro e w7 ⟨rfl, hw7⟩
          rw [sumS_rev]
          have HR7 := Lib.hid ((HR5.out.wider hz6).below hw7)
          obtain ⟨hc7, hf7⟩ := bcell hw7; have hz7 := hw7.size; (try simp only [World.size_alloc, World.size_setCell, World.size_drew, size_drewN, Nat.add_one_le_iff] at hz7); (try have hy7 : w.heap.size < w7.heap.size := by omega); (try have hx7 : w.heap.size + 1 < w7.heap.size := by omega); have HW7 := Lib.hid hw7; clear hw7
          go_wp2_with fail
          have hr7 : Rd w7 w7.heap.size 1 A5 (0 + 1 + (zs.length) + 1) (ints (x :: (zs ++ [-x]))) := by
            have := HR7.out.wider hz7; simpa [ints] using this
          refine (sum_n A5 _ c5 _ w7 hr7 (by omega)).mono ?_; rintro e w8 ⟨rfl, hw8⟩
          rw [sumS_more zs HAX.out HAY.out]
          have HW8 := Lib.hid hw8; clear hw8
          go_wp2_with fail
          go_ret
          have HB := HBR.out.trans (HB5.out.mono hzr)
          exact ⟨by simp, ((HW1.out.trans (HB.mono hz1)).trans (HW6.out.mono (by omega))).trans ((HW7.out.mono (by omega)).trans (HW8.out.mono (by omega)))⟩

        · have hx2 := amt_no hax
          have HAX := Lib.hid hax; clear hax
          by_cases hxm : x = -9223372036854775808
          · have hx3 : x ≤ -9223372036854775808 := by omega
            clear hxm
            go_wp2_with (first
              | (at_builtin; refine wpList_app rfl (.tmp 33) (.tmp 35) _ rfl wr.heap.size 2 i0 _ 1 8 Try.underlying22 hi hz0 hz1' hz2 rfl (by omega) (.slice none 0 0) 0 [] rfl (World.ownsRow_nil _ _ _ 1) _ _ 1 1 [.int .i64 x] rfl (Rd.fresh _ #[.int .i64 x] 2 1 1 rfl) (by simp [Value.oneCell']) (by unfold maxLen; omega) (by omega) (by simp) ?_; intro v3 w3 hown3 hg3 hat3; have hb3 : Below wr.heap.size wr w3 := ((Below.refl _ _).alloc (Nat.le_refl _) _).grown hg3 (by simp) (fun k hk => ((World.ownsRow_nil wr wr.heap.size 0 1).lt k hk).1); have HB3 := Lib.hid hb3; have HO3 := Lib.hid hown3; clear hown3 hg3 hat3 hb3)
              | (at_builtin; refine wpList_app rfl (.tmp 37) (.tmp 40) _ rfl wr.heap.size 2 i0 _ 1 8 Try.underlying22 hi hz0 hz1' hz2 rfl (by omega) _ _ _ rfl HO3.out _ A (zs.length) c (ints zs) rfl (hr1'.below (HBR.out.trans (HB3.out.mono hzr))) (ints_oneCell _ _) (by unfold maxLen; omega) (by omega) HB3.out.size ?_; intro v4 w4 hown4 hg4 hat4; have hb4 : Below wr.heap.size wr w4 := HB3.out.grown hg4 HB3.out.size (fun k hk => (HO3.out.lt k hk).1); have HB4 := Lib.hid hb4; have HO4 := Lib.hid hown4; clear hown4 hg4 hat4 hb4)
              | (at_builtin; refine wpList_app rfl (.tmp 42) (.tmp 45) _ rfl wr.heap.size 2 i0 _ 1 8 Try.underlying22 hi hz0 hz1' hz2 rfl (by omega) _ _ _ rfl (HO4.out.alloc _) _ _ 1 1 [.int .i64 (wrap64 (-x))] rfl (Rd.fresh _ #[.int .i64 (wrap64 (-x))] 2 1 1 rfl) (by simp [Value.oneCell']) (by unfold maxLen; omega) (by omega) (by have := HB4.out.size; simp; omega) ?_; intro v5 w5 hown5 hg5 hat5; have hb5 : Below wr.heap.size wr w5 := (HB4.out.alloc HB4.out.size _).grown hg5 (by have := HB4.out.size; simp; omega) (fun k hk => (HO4.out.lt k hk).1); have HB5 := Lib.hid hb5; obtain ⟨A5, c5, rfl, hm5⟩ := own_form hown5; have HO5 := Lib.hid hown5; clear hown5 hg5 hat5 hb5))
            have hb5 : Below w1.heap.size w1 w5 := HBR.out.trans (HB5.out.mono hzr)
            have hz5 := hb5.size
            refine (sum_n A (zs.length) c zs w5 ((hr1'.below hb5).wider hz5) (by omega)).mono ?_; rintro e w6 ⟨rfl, hw6⟩
            have hrt6 := (hrt.below (HB5.out.trans (hw6.mono HB5.out.size))).wider (Nat.le_trans HB5.out.size hw6.size)
            have HR5 := Lib.hid ((Rd.of_own HO5.out).below hw6)
            clear hb5
            obtain ⟨hc6, hf6⟩ := bcell hw6; have hz6 := hw6.size; (try simp only [World.size_alloc, World.size_setCell, World.size_drew, size_drewN, Nat.add_one_le_iff] at hz6); (try have hy6 : w.heap.size < w6.heap.size := by omega); (try have hx6 : w.heap.size + 1 < w6.heap.size := by omega); have HW6 := Lib.hid hw6; clear hw6
            go_wp2_with fail
            refine (sum_n A2 (zs.length) c2 zs.reverse w6 hrt6 (by omega)).mono ?_; rintro e w7 ⟨rfl, hw7⟩
            rw [sumS_rev]
            have HR7 := Lib.hid ((HR5.out.wider hz6).below hw7)
            obtain ⟨hc7, hf7⟩ := bcell hw7; have hz7 := hw7.size; (try simp only [World.size_alloc, World.size_setCell, World.size_drew, size_drewN, Nat.add_one_le_iff] at hz7); (try have hy7 : w.heap.size < w7.heap.size := by omega); (try have hx7 : w.heap.size + 1 < w7.heap.size := by omega); have HW7 := Lib.hid hw7; clear hw7
            go_wp2_with fail
            have hr7 : Rd w7 w7.heap.size 1 A5 (0 + 1 + (zs.length) + 1) (ints (x :: (zs ++ [wrap64 (-x)]))) := by
              have := HR7.out.wider hz7; simpa [ints] using this
            refine (sum_n A5 _ c5 _ w7 hr7 (by omega)).mono ?_; rintro e w8 ⟨rfl, hw8⟩
            rw [sumS_bad _ HAX.out]
            have HW8 := Lib.hid hw8; clear hw8
            go_wp2_with fail
            go_ret
            have HB := HBR.out.trans (HB5.out.mono hzr)
            exact ⟨by simp, ((HW1.out.trans (HB.mono hz1)).trans (HW6.out.mono (by omega))).trans ((HW7.out.mono (by omega)).trans (HW8.out.mono (by omega)))⟩

          · have hx3 : -9223372036854775808 < x := by omega
            clear hxm
            rcases hx2 with hx2 | hx2
            · skip
              go_wp2_with (first
                | (at_builtin; refine wpList_app rfl (.tmp 33) (.tmp 35) _ rfl wr.heap.size 2 i0 _ 1 8 Try.underlying22 hi hz0 hz1' hz2 rfl (by omega) (.slice none 0 0) 0 [] rfl (World.ownsRow_nil _ _ _ 1) _ _ 1 1 [.int .i64 x] rfl (Rd.fresh _ #[.int .i64 x] 2 1 1 rfl) (by simp [Value.oneCell']) (by unfold maxLen; omega) (by omega) (by simp) ?_; intro v3 w3 hown3 hg3 hat3; have hb3 : Below wr.heap.size wr w3 := ((Below.refl _ _).alloc (Nat.le_refl _) _).grown hg3 (by simp) (fun k hk => ((World.ownsRow_nil wr wr.heap.size 0 1).lt k hk).1); have HB3 := Lib.hid hb3; have HO3 := Lib.hid hown3; clear hown3 hg3 hat3 hb3)
                | (at_builtin; refine wpList_app rfl (.tmp 37) (.tmp 40) _ rfl wr.heap.size 2 i0 _ 1 8 Try.underlying22 hi hz0 hz1' hz2 rfl (by omega) _ _ _ rfl HO3.out _ A (zs.length) c (ints zs) rfl (hr1'.below (HBR.out.trans (HB3.out.mono hzr))) (ints_oneCell _ _) (by unfold maxLen; omega) (by omega) HB3.out.size ?_; intro v4 w4 hown4 hg4 hat4; have hb4 : Below wr.heap.size wr w4 := HB3.out.grown hg4 HB3.out.size (fun k hk => (HO3.out.lt k hk).1); have HB4 := Lib.hid hb4; have HO4 := Lib.hid hown4; clear hown4 hg4 hat4 hb4)
                | (at_builtin; refine wpList_app rfl (.tmp 42) (.tmp 45) _ rfl wr.heap.size 2 i0 _ 1 8 Try.underlying22 hi hz0 hz1' hz2 rfl (by omega) _ _ _ rfl (HO4.out.alloc _) _ _ 1 1 [.int .i64 (-x)] rfl (Rd.fresh _ #[.int .i64 (-x)] 2 1 1 rfl) (by simp [Value.oneCell']) (by unfold maxLen; omega) (by omega) (by have := HB4.out.size; simp; omega) ?_; intro v5 w5 hown5 hg5 hat5; have hb5 : Below wr.heap.size wr w5 := (HB4.out.alloc HB4.out.size _).grown hg5 (by have := HB4.out.size; simp; omega) (fun k hk => (HO4.out.lt k hk).1); have HB5 := Lib.hid hb5; obtain ⟨A5, c5, rfl, hm5⟩ := own_form hown5; have HO5 := Lib.hid hown5; clear hown5 hg5 hat5 hb5))
              have hb5 : Below w1.heap.size w1 w5 := HBR.out.trans (HB5.out.mono hzr)
              have hz5 := hb5.size
              refine (sum_n A (zs.length) c zs w5 ((hr1'.below hb5).wider hz5) (by omega)).mono ?_; rintro e w6 ⟨rfl, hw6⟩
              have hrt6 := (hrt.below (HB5.out.trans (hw6.mono HB5.out.size))).wider (Nat.le_trans HB5.out.size hw6.size)
              have HR5 := Lib.hid ((Rd.of_own HO5.out).below hw6)
              clear hb5
              obtain ⟨hc6, hf6⟩ := bcell hw6; have hz6 := hw6.size; (try simp only [World.size_alloc, World.size_setCell, World.size_drew, size_drewN, Nat.add_one_le_iff] at hz6); (try have hy6 : w.heap.size < w6.heap.size := by omega); (try have hx6 : w.heap.size + 1 < w6.heap.size := by omega); have HW6 := Lib.hid hw6; clear hw6
              go_wp2_with fail
              refine (sum_n A2 (zs.length) c2 zs.reverse w6 hrt6 (by omega)).mono ?_; rintro e w7 ⟨rfl, hw7⟩
              rw [sumS_rev]
              have HR7 := Lib.hid ((HR5.out.wider hz6).below hw7)
              obtain ⟨hc7, hf7⟩ := bcell hw7; have hz7 := hw7.size; (try simp only [World.size_alloc, World.size_setCell, World.size_drew, size_drewN, Nat.add_one_le_iff] at hz7); (try have hy7 : w.heap.size < w7.heap.size := by omega); (try have hx7 : w.heap.size + 1 < w7.heap.size := by omega); have HW7 := Lib.hid hw7; clear hw7
              go_wp2_with fail
              have hr7 : Rd w7 w7.heap.size 1 A5 (0 + 1 + (zs.length) + 1) (ints (x :: (zs ++ [-x]))) := by
                have := HR7.out.wider hz7; simpa [ints] using this
              refine (sum_n A5 _ c5 _ w7 hr7 (by omega)).mono ?_; rintro e w8 ⟨rfl, hw8⟩
              rw [sumS_bad _ HAX.out]
              have HW8 := Lib.hid hw8; clear hw8
              go_wp2_with fail
              go_ret
              have HB := HBR.out.trans (HB5.out.mono hzr)
              exact ⟨by simp, ((HW1.out.trans (HB.mono hz1)).trans (HW6.out.mono (by omega))).trans ((HW7.out.mono (by omega)).trans (HW8.out.mono (by omega)))⟩

            · skip
              go_wp2_with (first
                | (at_builtin; refine wpList_app rfl (.tmp 33) (.tmp 35) _ rfl wr.heap.size 2 i0 _ 1 8 Try.underlying22 hi hz0 hz1' hz2 rfl (by omega) (.slice none 0 0) 0 [] rfl (World.ownsRow_nil _ _ _ 1) _ _ 1 1 [.int .i64 x] rfl (Rd.fresh _ #[.int .i64 x] 2 1 1 rfl) (by simp [Value.oneCell']) (by unfold maxLen; omega) (by omega) (by simp) ?_; intro v3 w3 hown3 hg3 hat3; have hb3 : Below wr.heap.size wr w3 := ((Below.refl _ _).alloc (Nat.le_refl _) _).grown hg3 (by simp) (fun k hk => ((World.ownsRow_nil wr wr.heap.size 0 1).lt k hk).1); have HB3 := Lib.hid hb3; have HO3 := Lib.hid hown3; clear hown3 hg3 hat3 hb3)
                | (at_builtin; refine wpList_app rfl (.tmp 37) (.tmp 40) _ rfl wr.heap.size 2 i0 _ 1 8 Try.underlying22 hi hz0 hz1' hz2 rfl (by omega) _ _ _ rfl HO3.out _ A (zs.length) c (ints zs) rfl (hr1'.below (HBR.out.trans (HB3.out.mono hzr))) (ints_oneCell _ _) (by unfold maxLen; omega) (by omega) HB3.out.size ?_; intro v4 w4 hown4 hg4 hat4; have hb4 : Below wr.heap.size wr w4 := HB3.out.grown hg4 HB3.out.size (fun k hk => (HO3.out.lt k hk).1); have HB4 := Lib.hid hb4; have HO4 := Lib.hid hown4; clear hown4 hg4 hat4 hb4)
                | (at_builtin; refine wpList_app rfl (.tmp 42) (.tmp 45) _ rfl wr.heap.size 2 i0 _ 1 8 Try.underlying22 hi hz0 hz1' hz2 rfl (by omega) _ _ _ rfl (HO4.out.alloc _) _ _ 1 1 [.int .i64 (-x)] rfl (Rd.fresh _ #[.int .i64 (-x)] 2 1 1 rfl) (by simp [Value.oneCell']) (by unfold maxLen; omega) (by omega) (by have := HB4.out.size; simp; omega) ?_; intro v5 w5 hown5 hg5 hat5; have hb5 : Below wr.heap.size wr w5 := (HB4.out.alloc HB4.out.size _).grown hg5 (by have := HB4.out.size; simp; omega) (fun k hk => (HO4.out.lt k hk).1); have HB5 := Lib.hid hb5; obtain ⟨A5, c5, rfl, hm5⟩ := own_form hown5; have HO5 := Lib.hid hown5; clear hown5 hg5 hat5 hb5))
              have hb5 : Below w1.heap.size w1 w5 := HBR.out.trans (HB5.out.mono hzr)
              have hz5 := hb5.size
              refine (sum_n A (zs.length) c zs w5 ((hr1'.below hb5).wider hz5) (by omega)).mono ?_; rintro e w6 ⟨rfl, hw6⟩
              have hrt6 := (hrt.below (HB5.out.trans (hw6.mono HB5.out.size))).wider (Nat.le_trans HB5.out.size hw6.size)
              have HR5 := Lib.hid ((Rd.of_own HO5.out).below hw6)
              clear hb5
              obtain ⟨hc6, hf6⟩ := bcell hw6; have hz6 := hw6.size; (try simp only [World.size_alloc, World.size_setCell, World.size_drew, size_drewN, Nat.add_one_le_iff] at hz6); (try have hy6 : w.heap.size < w6.heap.size := by omega); (try have hx6 : w.heap.size + 1 < w6.heap.size := by omega); have HW6 := Lib.hid hw6; clear hw6
              go_wp2_with fail
              refine (sum_n A2 (zs.length) c2 zs.reverse w6 hrt6 (by omega)).mono ?_; rintro e w7 ⟨rfl, hw7⟩
              rw [sumS_rev]
              have HR7 := Lib.hid ((HR5.out.wider hz6).below hw7)
              obtain ⟨hc7, hf7⟩ := bcell hw7; have hz7 := hw7.size; (try simp only [World.size_alloc, World.size_setCell, World.size_drew, size_drewN, Nat.add_one_le_iff] at hz7); (try have hy7 : w.heap.size < w7.heap.size := by omega); (try have hx7 : w.heap.size + 1 < w7.heap.size := by omega); have HW7 := Lib.hid hw7; clear hw7
              go_wp2_with fail
              have hr7 : Rd w7 w7.heap.size 1 A5 (0 + 1 + (zs.length) + 1) (ints (x :: (zs ++ [-x]))) := by
                have := HR7.out.wider hz7; simpa [ints] using this
              refine (sum_n A5 _ c5 _ w7 hr7 (by omega)).mono ?_; rintro e w8 ⟨rfl, hw8⟩
              rw [sumS_bad _ HAX.out]
              have HW8 := Lib.hid hw8; clear hw8
              go_wp2_with fail
              go_ret
              have HB := HBR.out.trans (HB5.out.mono hzr)
              exact ⟨by simp, ((HW1.out.trans (HB.mono hz1)).trans (HW6.out.mono (by omega))).trans ((HW7.out.mono (by omega)).trans (HW8.out.mono (by omega)))⟩

  · obtain ⟨L, hL⟩ : ∃ L, L = zs.take 1000 := ⟨_, rfl⟩
    have hLa : L.length ≤ 1000 := by rw [hL]; simp; omega
    have hLb : 1000 ≤ L.length := by rw [hL]; simp; omega
    have hr1' : Rd w1 w1.heap.size 1 A 1000 (ints L) := by
      have := hr1.take (m := 1000) (by omega)
      rwa [show (ints zs).take (1000 * 1) = ints L by rw [hL]; simp [ints, List.map_take]] at this
    have HL := Lib.hid hL; clear hL
    go_wp2_with fail
    go_loopw [7, 9] (fun v i wr => ∃ q : Int, -1 ≤ q ∧ q < (1000 : Nat) ∧ i = .int .i64 q ∧ wr.ownsRow w1.heap.size 2 1 v (1000 - (q + 1).toNat) (ints (L.drop (q + 1).toNat).reverse) ∧ Below w1.heap.size w1 wr) (fun _ i _ => (intOf i + 1).toNat)
    case atStart => exact ⟨(1000 : Nat) - 1, by omega, by omega, rfl, own0 w1 _ _ _ (by omega) (by omega), Below.refl _ _⟩
    case round =>
      obtain ⟨q, hq0, hq1, rfl, hown, hbr⟩ := hrel
      by_cases hq : 0 ≤ q
      · obtain ⟨j, rfl⟩ := Int.eq_ofNat_of_zero_le hq
        have hj : j < 1000 := by omega
        have hj' : j < L.length := by omega
        obtain ⟨b, off, rfl, hb, hc⟩ := hr1'.2 (by omega)
        have hcell := (hbr.cell (p := ⟨b, off + j, none⟩) hb).trans ((hc j (by omega)).trans (ints_at L j hj'))
        have HBR := Lib.hid hbr
        have hzr := hbr.size
        have HO := Lib.hid hown
        clear hc hbr hown
        go_wp2_with (at_builtin; refine wpList_app rfl (.tmp 26) (.tmp 31) _ rfl w1.heap.size 2 i0 _ 1 8 Try.underlying22 hi hz0 hz1' hz2 rfl (by omega) _ _ _ rfl (HO.out.alloc _) _ _ 1 1 [.int .i64 L[j]] rfl (Rd.fresh _ #[.int .i64 L[j]] 2 1 1 rfl) (by simp [Value.oneCell']) (by unfold maxLen; omega) (by omega) (by simp; omega) ?_; intro v2 w2 hown2 hg2 hat2)
        refine ⟨⟨(j : Int) - 1, by omega, by omega, by go_num, ?_, ?_⟩, by first | (simp [intOf]; done) | (simp [intOf]; omega)⟩
        · have e1 : ((j : Int) - 1 + 1).toNat = j := by omega
          have e2 : ((j : Int) + 1).toNat = j + 1 := by omega
          have e3 : 1000 - (j + 1) + 1 = 1000 - j := by omega
          rw [e1]; rw [e2, e3] at hown2
          have e4 : ints (L.drop j).reverse = ints (L.drop (j + 1)).reverse ++ [.int .i64 L[j]] := by
            rw [List.drop_eq_getElem_cons hj', List.reverse_cons]; simp only [ints, List.map_append, List.map_cons, List.map_nil]
          rw [e4]; exact hown2
        · exact (HBR.out.alloc hzr _).grown hg2 (by simp; omega) (fun k hk => (HO.out.lt k hk).1)
      · obtain rfl : q = -1 := by omega
        have hown' : wr.ownsRow w1.heap.size 2 1 u7 (1000) (ints L.reverse) := by
          have e1 : ((-1 : Int) + 1).toNat = 0 := rfl
          rw [e1, Nat.sub_zero, List.drop_zero] at hown; exact hown
        clear hown
        obtain ⟨A2, c2, rfl, _⟩ := own_form hown'
        have hrt := Rd.of_own hown'
        have HBR := Lib.hid hbr
        have hzr := hbr.size
        have HO := Lib.hid hown'
        clear hbr hown'
        by_cases hax : amt x = true
        · have hx2 := amt_yes hax
          have hay : amt (-x) = true := by simp [amt]; omega
          have HAX := Lib.hid hax; clear hax
          have HAY := Lib.hid hay; clear hay
          go_wp2_with (first
            | (at_builtin; refine wpList_app rfl (.tmp 33) (.tmp 35) _ rfl wr.heap.size 2 i0 _ 1 8 Try.underlying22 hi hz0 hz1' hz2 rfl (by omega) (.slice none 0 0) 0 [] rfl (World.ownsRow_nil _ _ _ 1) _ _ 1 1 [.int .i64 x] rfl (Rd.fresh _ #[.int .i64 x] 2 1 1 rfl) (by simp [Value.oneCell']) (by unfold maxLen; omega) (by omega) (by simp) ?_; intro v3 w3 hown3 hg3 hat3; have hb3 : Below wr.heap.size wr w3 := ((Below.refl _ _).alloc (Nat.le_refl _) _).grown hg3 (by simp) (fun k hk => ((World.ownsRow_nil wr wr.heap.size 0 1).lt k hk).1); have HB3 := Lib.hid hb3; have HO3 := Lib.hid hown3; clear hown3 hg3 hat3 hb3)
            | (at_builtin; refine wpList_app rfl (.tmp 37) (.tmp 40) _ rfl wr.heap.size 2 i0 _ 1 8 Try.underlying22 hi hz0 hz1' hz2 rfl (by omega) _ _ _ rfl HO3.out _ A (1000) c (ints L) rfl (hr1'.below (HBR.out.trans (HB3.out.mono hzr))) (ints_oneCell _ _) (by unfold maxLen; omega) (by omega) HB3.out.size ?_; intro v4 w4 hown4 hg4 hat4; have hb4 : Below wr.heap.size wr w4 := HB3.out.grown hg4 HB3.out.size (fun k hk => (HO3.out.lt k hk).1); have HB4 := Lib.hid hb4; have HO4 := Lib.hid hown4; clear hown4 hg4 hat4 hb4)
            | (at_builtin; refine wpList_app rfl (.tmp 42) (.tmp 45) _ rfl wr.heap.size 2 i0 _ 1 8 Try.underlying22 hi hz0 hz1' hz2 rfl (by omega) _ _ _ rfl (HO4.out.alloc _) _ _ 1 1 [.int .i64 (-x)] rfl (Rd.fresh _ #[.int .i64 (-x)] 2 1 1 rfl) (by simp [Value.oneCell']) (by unfold maxLen; omega) (by omega) (by have := HB4.out.size; simp; omega) ?_; intro v5 w5 hown5 hg5 hat5; have hb5 : Below wr.heap.size wr w5 := (HB4.out.alloc HB4.out.size _).grown hg5 (by have := HB4.out.size; simp; omega) (fun k hk => (HO4.out.lt k hk).1); have HB5 := Lib.hid hb5; obtain ⟨A5, c5, rfl, hm5⟩ := own_form hown5; have HO5 := Lib.hid hown5; clear hown5 hg5 hat5 hb5))
          have hb5 : Below w1.heap.size w1 w5 := HBR.out.trans (HB5.out.mono hzr)
          have hz5 := hb5.size
          refine (sum_n A (1000) c L w5 ((hr1'.below hb5).wider hz5) (by omega)).mono ?_; rintro e w6 ⟨rfl, hw6⟩
          have hrt6 := (hrt.below (HB5.out.trans (hw6.mono HB5.out.size))).wider (Nat.le_trans HB5.out.size hw6.size)
          have HR5 := Lib.hid ((Rd.of_own HO5.out).below hw6)
          clear hb5
          obtain ⟨hc6, hf6⟩ := bcell hw6; have hz6 := hw6.size; (try simp only [World.size_alloc, World.size_setCell, World.size_drew, size_drewN, Nat.add_one_le_iff] at hz6); (try have hy6 : w.heap.size < w6.heap.size := by omega); (try have hx6 : w.heap.size + 1 < w6.heap.size := by omega); have HW6 := Lib.hid hw6; clear hw6
          go_wp2_with fail
          refine (sum_n A2 (1000) c2 L.reverse w6 hrt6 (by omega)).mono ?_; rintro e w7 ⟨rfl, hw7⟩
          rw [sumS_rev]
          have HR7 := Lib.hid ((HR5.out.wider hz6).below hw7)
          obtain ⟨hc7, hf7⟩ := bcell hw7; have hz7 := hw7.size; (try simp only [World.size_alloc, World.size_setCell, World.size_drew, size_drewN, Nat.add_one_le_iff] at hz7); (try have hy7 : w.heap.size < w7.heap.size := by omega); (try have hx7 : w.heap.size + 1 < w7.heap.size := by omega); have HW7 := Lib.hid hw7; clear hw7
          go_wp2_with fail
          have hr7 : Rd w7 w7.heap.size 1 A5 (0 + 1 + (1000) + 1) (ints (x :: (L ++ [-x]))) := by
            have := HR7.out.wider hz7; simpa [ints] using this
          refine (sum_n A5 _ c5 _ w7 hr7 (by omega)).mono ?_; rintro e w8 ⟨rfl, hw8⟩
          rw [sumS_more L HAX.out HAY.out]
          have HW8 := Lib.hid hw8; clear hw8
          go_wp2_with fail
          go_ret
          have HB := HBR.out.trans (HB5.out.mono hzr)
          exact ⟨by simp, ((HW1.out.trans (HB.mono hz1)).trans (HW6.out.mono (by omega))).trans ((HW7.out.mono (by omega)).trans (HW8.out.mono (by omega)))⟩

        · have hx2 := amt_no hax
          have HAX := Lib.hid hax; clear hax
          by_cases hxm : x = -9223372036854775808
          · have hx3 : x ≤ -9223372036854775808 := by omega
            clear hxm
            go_wp2_with (first
              | (at_builtin; refine wpList_app rfl (.tmp 33) (.tmp 35) _ rfl wr.heap.size 2 i0 _ 1 8 Try.underlying22 hi hz0 hz1' hz2 rfl (by omega) (.slice none 0 0) 0 [] rfl (World.ownsRow_nil _ _ _ 1) _ _ 1 1 [.int .i64 x] rfl (Rd.fresh _ #[.int .i64 x] 2 1 1 rfl) (by simp [Value.oneCell']) (by unfold maxLen; omega) (by omega) (by simp) ?_; intro v3 w3 hown3 hg3 hat3; have hb3 : Below wr.heap.size wr w3 := ((Below.refl _ _).alloc (Nat.le_refl _) _).grown hg3 (by simp) (fun k hk => ((World.ownsRow_nil wr wr.heap.size 0 1).lt k hk).1); have HB3 := Lib.hid hb3; have HO3 := Lib.hid hown3; clear hown3 hg3 hat3 hb3)
              | (at_builtin; refine wpList_app rfl (.tmp 37) (.tmp 40) _ rfl wr.heap.size 2 i0 _ 1 8 Try.underlying22 hi hz0 hz1' hz2 rfl (by omega) _ _ _ rfl HO3.out _ A (1000) c (ints L) rfl (hr1'.below (HBR.out.trans (HB3.out.mono hzr))) (ints_oneCell _ _) (by unfold maxLen; omega) (by omega) HB3.out.size ?_; intro v4 w4 hown4 hg4 hat4; have hb4 : Below wr.heap.size wr w4 := HB3.out.grown hg4 HB3.out.size (fun k hk => (HO3.out.lt k hk).1); have HB4 := Lib.hid hb4; have HO4 := Lib.hid hown4; clear hown4 hg4 hat4 hb4)
              | (at_builtin; refine wpList_app rfl (.tmp 42) (.tmp 45) _ rfl wr.heap.size 2 i0 _ 1 8 Try.underlying22 hi hz0 hz1' hz2 rfl (by omega) _ _ _ rfl (HO4.out.alloc _) _ _ 1 1 [.int .i64 (wrap64 (-x))] rfl (Rd.fresh _ #[.int .i64 (wrap64 (-x))] 2 1 1 rfl) (by simp [Value.oneCell']) (by unfold maxLen; omega) (by omega) (by have := HB4.out.size; simp; omega) ?_; intro v5 w5 hown5 hg5 hat5; have hb5 : Below wr.heap.size wr w5 := (HB4.out.alloc HB4.out.size _).grown hg5 (by have := HB4.out.size; simp; omega) (fun k hk => (HO4.out.lt k hk).1); have HB5 := Lib.hid hb5; obtain ⟨A5, c5, rfl, hm5⟩ := own_form hown5; have HO5 := Lib.hid hown5; clear hown5 hg5 hat5 hb5))
            have hb5 : Below w1.heap.size w1 w5 := HBR.out.trans (HB5.out.mono hzr)
            have hz5 := hb5.size
            refine (sum_n A (1000) c L w5 ((hr1'.below hb5).wider hz5) (by omega)).mono ?_; rintro e w6 ⟨rfl, hw6⟩
            have hrt6 := (hrt.below (HB5.out.trans (hw6.mono HB5.out.size))).wider (Nat.le_trans HB5.out.size hw6.size)
            have HR5 := Lib.hid ((Rd.of_own HO5.out).below hw6)
            clear hb5
            obtain ⟨hc6, hf6⟩ := bcell hw6; have hz6 := hw6.size; (try simp only [World.size_alloc, World.size_setCell, World.size_drew, size_drewN, Nat.add_one_le_iff] at hz6); (try have hy6 : w.heap.size < w6.heap.size := by omega); (try have hx6 : w.heap.size + 1 < w6.heap.size := by omega); have HW6 := Lib.hid hw6; clear hw6
            go_wp2_with fail
            refine (sum_n A2 (1000) c2 L.reverse w6 hrt6 (by omega)).mono ?_; rintro e w7 ⟨rfl, hw7⟩
            rw [sumS_rev]
            have HR7 := Lib.hid ((HR5.out.wider hz6).below hw7)
            obtain ⟨hc7, hf7⟩ := bcell hw7; have hz7 := hw7.size; (try simp only [World.size_alloc, World.size_setCell, World.size_drew, size_drewN, Nat.add_one_le_iff] at hz7); (try have hy7 : w.heap.size < w7.heap.size := by omega); (try have hx7 : w.heap.size + 1 < w7.heap.size := by omega); have HW7 := Lib.hid hw7; clear hw7
            go_wp2_with fail
            have hr7 : Rd w7 w7.heap.size 1 A5 (0 + 1 + (1000) + 1) (ints (x :: (L ++ [wrap64 (-x)]))) := by
              have := HR7.out.wider hz7; simpa [ints] using this
            refine (sum_n A5 _ c5 _ w7 hr7 (by omega)).mono ?_; rintro e w8 ⟨rfl, hw8⟩
            rw [sumS_bad _ HAX.out]
            have HW8 := Lib.hid hw8; clear hw8
            go_wp2_with fail
            go_ret
            have HB := HBR.out.trans (HB5.out.mono hzr)
            exact ⟨by simp, ((HW1.out.trans (HB.mono hz1)).trans (HW6.out.mono (by omega))).trans ((HW7.out.mono (by omega)).trans (HW8.out.mono (by omega)))⟩

          · have hx3 : -9223372036854775808 < x := by omega
            clear hxm
            rcases hx2 with hx2 | hx2
            · skip
              go_wp2_with (first
                | (at_builtin; refine wpList_app rfl (.tmp 33) (.tmp 35) _ rfl wr.heap.size 2 i0 _ 1 8 Try.underlying22 hi hz0 hz1' hz2 rfl (by omega) (.slice none 0 0) 0 [] rfl (World.ownsRow_nil _ _ _ 1) _ _ 1 1 [.int .i64 x] rfl (Rd.fresh _ #[.int .i64 x] 2 1 1 rfl) (by simp [Value.oneCell']) (by unfold maxLen; omega) (by omega) (by simp) ?_; intro v3 w3 hown3 hg3 hat3; have hb3 : Below wr.heap.size wr w3 := ((Below.refl _ _).alloc (Nat.le_refl _) _).grown hg3 (by simp) (fun k hk => ((World.ownsRow_nil wr wr.heap.size 0 1).lt k hk).1); have HB3 := Lib.hid hb3; have HO3 := Lib.hid hown3; clear hown3 hg3 hat3 hb3)
                | (at_builtin; refine wpList_app rfl (.tmp 37) (.tmp 40) _ rfl wr.heap.size 2 i0 _ 1 8 Try.underlying22 hi hz0 hz1' hz2 rfl (by omega) _ _ _ rfl HO3.out _ A (1000) c (ints L) rfl (hr1'.below (HBR.out.trans (HB3.out.mono hzr))) (ints_oneCell _ _) (by unfold maxLen; omega) (by omega) HB3.out.size ?_; intro v4 w4 hown4 hg4 hat4; have hb4 : Below wr.heap.size wr w4 := HB3.out.grown hg4 HB3.out.size (fun k hk => (HO3.out.lt k hk).1); have HB4 := Lib.hid hb4; have HO4 := Lib.hid hown4; clear hown4 hg4 hat4 hb4)
                | (at_builtin; refine wpList_app rfl (.tmp 42) (.tmp 45) _ rfl wr.heap.size 2 i0 _ 1 8 Try.underlying22 hi hz0 hz1' hz2 rfl (by omega) _ _ _ rfl (HO4.out.alloc _) _ _ 1 1 [.int .i64 (-x)] rfl (Rd.fresh _ #[.int .i64 (-x)] 2 1 1 rfl) (by simp [Value.oneCell']) (by unfold maxLen; omega) (by omega) (by have := HB4.out.size; simp; omega) ?_; intro v5 w5 hown5 hg5 hat5; have hb5 : Below wr.heap.size wr w5 := (HB4.out.alloc HB4.out.size _).grown hg5 (by have := HB4.out.size; simp; omega) (fun k hk => (HO4.out.lt k hk).1); have HB5 := Lib.hid hb5; obtain ⟨A5, c5, rfl, hm5⟩ := own_form hown5; have HO5 := Lib.hid hown5; clear hown5 hg5 hat5 hb5))
              have hb5 : Below w1.heap.size w1 w5 := HBR.out.trans (HB5.out.mono hzr)
              have hz5 := hb5.size
              refine (sum_n A (1000) c L w5 ((hr1'.below hb5).wider hz5) (by omega)).mono ?_; rintro e w6 ⟨rfl, hw6⟩
              have hrt6 := (hrt.below (HB5.out.trans (hw6.mono HB5.out.size))).wider (Nat.le_trans HB5.out.size hw6.size)
              have HR5 := Lib.hid ((Rd.of_own HO5.out).below hw6)
              clear hb5
              obtain ⟨hc6, hf6⟩ := bcell hw6; have hz6 := hw6.size; (try simp only [World.size_alloc, World.size_setCell, World.size_drew, size_drewN, Nat.add_one_le_iff] at hz6); (try have hy6 : w.heap.size < w6.heap.size := by omega); (try have hx6 : w.heap.size + 1 < w6.heap.size := by omega); have HW6 := Lib.hid hw6; clear hw6
              go_wp2_with fail
              refine (sum_n A2 (1000) c2 L.reverse w6 hrt6 (by omega)).mono ?_; rintro e w7 ⟨rfl, hw7⟩
              rw [sumS_rev]
              have HR7 := Lib.hid ((HR5.out.wider hz6).below hw7)
              obtain ⟨hc7, hf7⟩ := bcell hw7; have hz7 := hw7.size; (try simp only [World.size_alloc, World.size_setCell, World.size_drew, size_drewN, Nat.add_one_le_iff] at hz7); (try have hy7 : w.heap.size < w7.heap.size := by omega); (try have hx7 : w.heap.size + 1 < w7.heap.size := by omega); have HW7 := Lib.hid hw7; clear hw7
              go_wp2_with fail
              have hr7 : Rd w7 w7.heap.size 1 A5 (0 + 1 + (1000) + 1) (ints (x :: (L ++ [-x]))) := by
                have := HR7.out.wider hz7; simpa [ints] using this
              refine (sum_n A5 _ c5 _ w7 hr7 (by omega)).mono ?_; rintro e w8 ⟨rfl, hw8⟩
              rw [sumS_bad _ HAX.out]
              have HW8 := Lib.hid hw8; clear hw8
              go_wp2_with fail
              go_ret
              have HB := HBR.out.trans (HB5.out.mono hzr)
              exact ⟨by simp, ((HW1.out.trans (HB.mono hz1)).trans (HW6.out.mono (by omega))).trans ((HW7.out.mono (by omega)).trans (HW8.out.mono (by omega)))⟩

            · skip
              go_wp2_with (first
                | (at_builtin; refine wpList_app rfl (.tmp 33) (.tmp 35) _ rfl wr.heap.size 2 i0 _ 1 8 Try.underlying22 hi hz0 hz1' hz2 rfl (by omega) (.slice none 0 0) 0 [] rfl (World.ownsRow_nil _ _ _ 1) _ _ 1 1 [.int .i64 x] rfl (Rd.fresh _ #[.int .i64 x] 2 1 1 rfl) (by simp [Value.oneCell']) (by unfold maxLen; omega) (by omega) (by simp) ?_; intro v3 w3 hown3 hg3 hat3; have hb3 : Below wr.heap.size wr w3 := ((Below.refl _ _).alloc (Nat.le_refl _) _).grown hg3 (by simp) (fun k hk => ((World.ownsRow_nil wr wr.heap.size 0 1).lt k hk).1); have HB3 := Lib.hid hb3; have HO3 := Lib.hid hown3; clear hown3 hg3 hat3 hb3)
                | (at_builtin; refine wpList_app rfl (.tmp 37) (.tmp 40) _ rfl wr.heap.size 2 i0 _ 1 8 Try.underlying22 hi hz0 hz1' hz2 rfl (by omega) _ _ _ rfl HO3.out _ A (1000) c (ints L) rfl (hr1'.below (HBR.out.trans (HB3.out.mono hzr))) (ints_oneCell _ _) (by unfold maxLen; omega) (by omega) HB3.out.size ?_; intro v4 w4 hown4 hg4 hat4; have hb4 : Below wr.heap.size wr w4 := HB3.out.grown hg4 HB3.out.size (fun k hk => (HO3.out.lt k hk).1); have HB4 := Lib.hid hb4; have HO4 := Lib.hid hown4; clear hown4 hg4 hat4 hb4)
                | (at_builtin; refine wpList_app rfl (.tmp 42) (.tmp 45) _ rfl wr.heap.size 2 i0 _ 1 8 Try.underlying22 hi hz0 hz1' hz2 rfl (by omega) _ _ _ rfl (HO4.out.alloc _) _ _ 1 1 [.int .i64 (-x)] rfl (Rd.fresh _ #[.int .i64 (-x)] 2 1 1 rfl) (by simp [Value.oneCell']) (by unfold maxLen; omega) (by omega) (by have := HB4.out.size; simp; omega) ?_; intro v5 w5 hown5 hg5 hat5; have hb5 : Below wr.heap.size wr w5 := (HB4.out.alloc HB4.out.size _).grown hg5 (by have := HB4.out.size; simp; omega) (fun k hk => (HO4.out.lt k hk).1); have HB5 := Lib.hid hb5; obtain ⟨A5, c5, rfl, hm5⟩ := own_form hown5; have HO5 := Lib.hid hown5; clear hown5 hg5 hat5 hb5))
              have hb5 : Below w1.heap.size w1 w5 := HBR.out.trans (HB5.out.mono hzr)
              have hz5 := hb5.size
              refine (sum_n A (1000) c L w5 ((hr1'.below hb5).wider hz5) (by omega)).mono ?_; rintro e w6 ⟨rfl, hw6⟩
              have hrt6 := (hrt.below (HB5.out.trans (hw6.mono HB5.out.size))).wider (Nat.le_trans HB5.out.size hw6.size)
              have HR5 := Lib.hid ((Rd.of_own HO5.out).below hw6)
              clear hb5
              obtain ⟨hc6, hf6⟩ := bcell hw6; have hz6 := hw6.size; (try simp only [World.size_alloc, World.size_setCell, World.size_drew, size_drewN, Nat.add_one_le_iff] at hz6); (try have hy6 : w.heap.size < w6.heap.size := by omega); (try have hx6 : w.heap.size + 1 < w6.heap.size := by omega); have HW6 := Lib.hid hw6; clear hw6
              go_wp2_with fail
              refine (sum_n A2 (1000) c2 L.reverse w6 hrt6 (by omega)).mono ?_; rintro e w7 ⟨rfl, hw7⟩
              rw [sumS_rev]
              have HR7 := Lib.hid ((HR5.out.wider hz6).below hw7)
              obtain ⟨hc7, hf7⟩ := bcell hw7; have hz7 := hw7.size; (try simp only [World.size_alloc, World.size_setCell, World.size_drew, size_drewN, Nat.add_one_le_iff] at hz7); (try have hy7 : w.heap.size < w7.heap.size := by omega); (try have hx7 : w.heap.size + 1 < w7.heap.size := by omega); have HW7 := Lib.hid hw7; clear hw7
              go_wp2_with fail
              have hr7 : Rd w7 w7.heap.size 1 A5 (0 + 1 + (1000) + 1) (ints (x :: (L ++ [-x]))) := by
                have := HR7.out.wider hz7; simpa [ints] using this
              refine (sum_n A5 _ c5 _ w7 hr7 (by omega)).mono ?_; rintro e w8 ⟨rfl, hw8⟩
              rw [sumS_bad _ HAX.out]
              have HW8 := Lib.hid hw8; clear hw8
              go_wp2_with fail
              go_ret
              have HB := HBR.out.trans (HB5.out.mono hzr)
              exact ⟨by simp, ((HW1.out.trans (HB.mono hz1)).trans (HW6.out.mono (by omega))).trans ((HW7.out.mono (by omega)).trans (HW8.out.mono (by omega)))⟩


end Go.Proofs.Ytddbmaoighimmaa
