/- The walk of MergeTurned. -/
import Derived.Test.YtfcemlcocdhmfaaLMAll
import Derived.Test.YtfcemlcocdhmfaaHY
namespace Go.Proofs.Ytfcemlcocdhmfaa
open Go.RowKit Go
set_option linter.unusedVariables false
set_option linter.unusedSimpArgs false

theorem row_nil (w : World) : RowB w (.slice none 0 0) [] := ⟨none, 0, rfl, Nat.le_refl _, Rd.nil, by simp⟩
theorem lsts_two {w : World} {va vb : Value} {xs bs : List El} (ha : RowB w va xs) (hb : RowB w vb bs) (fa : FewR xs) (fb : FewR bs) :
    LstsB (w.alloc (.cells #[va, vb] 25)) (some ⟨w.heap.size, 0, none⟩) 2 [(va, xs), (vb, bs)] := by
  have hbe := bnewH w (.cells #[va, vb] 25)
  refine ⟨rfl, ⟨rfl, fun _ => ⟨w.heap.size, 0, rfl, by simp, fun j hj => ?_⟩⟩, fun x hx => ?_⟩
  · rw [blk_cell (blk_new w _ rfl)]
    have : j = 0 ∨ j = 1 := by omega
    rcases this with rfl | rfl <;> rfl
  · simp only [List.mem_cons, List.not_mem_nil, or_false] at hx
    rcases hx with rfl | rfl
    · exact ⟨ha.up hbe, Nat.le_trans fa.len (by omega), fa.lens⟩
    · exact ⟨hb.up hbe, Nat.le_trans fb.len (by omega), fb.lens⟩
theorem lsts_mid {w : World} {va : Value} {xs : List El} (ha : RowB w va xs) (fa : FewR xs) :
    LstsB (w.alloc (.cells #[.slice none 0 0, va, .slice none 0 0] 25)) (some ⟨w.heap.size, 0, none⟩) 3 [(.slice none 0 0, []), (va, xs), (.slice none 0 0, [])] := by
  have hbe := bnewH w (.cells #[.slice none 0 0, va, .slice none 0 0] 25)
  refine ⟨rfl, ⟨rfl, fun _ => ⟨w.heap.size, 0, rfl, by simp, fun j hj => ?_⟩⟩, fun x hx => ?_⟩
  · rw [blk_cell (blk_new w _ rfl)]
    have : j = 0 ∨ j = 1 ∨ j = 2 := by omega
    rcases this with rfl | rfl | rfl <;> rfl
  · simp only [List.mem_cons, List.not_mem_nil, or_false] at hx
    rcases hx with rfl | rfl | rfl
    · exact ⟨row_nil _, by simp, by simp⟩
    · exact ⟨ha.up hbe, Nat.le_trans fa.len (by omega), fa.lens⟩
    · exact ⟨row_nil _, by simp, by simp⟩
/-- All's answer, where the lists are in order. -/
theorem alls_ok {ls : List Lst} {w w' : World} {e : Ending} (h : Alls ls w e w') (ho : ∀ x ∈ ls, inO (recs x) = true) :
    (∃ vo qs, e = .returned (.tuple #[vo, .int .i64 0]) ∧ RowB w' vo qs ∧ IsMerge ord2 (LL ls) (qs.map El.r) ∧ ∀ q ∈ qs, LenR q) ∧ Below w.heap.size w w' := by
  obtain ⟨he, hb⟩ := h
  rw [if_pos ho] at he
  exact ⟨he, hb⟩
/-- Both lists are few. -/
def BothF (a b : List El) (m : Bool) : Prop := m = true → FewR a ∧ FewR b
def BothO (a b : List El) (m : Bool) : Prop := m = true → inO (a.map El.r) = true ∧ inO (b.map El.r) = true
set_option maxHeartbeats 3200000 in
set_option maxRecDepth 100000 in
theorem mergeTurned_walk (A A' : Option Addr) (c c' : Nat) (xs bs : List El) (w : World) (h1 : RowB w (.slice A xs.length c) xs) (h2 : RowB w (.slice A' bs.length c') bs) (hn1 : xs.length ≤ 9223372036854775807) (hn2 : bs.length ≤ 9223372036854775807) :
    Calls Try.prog 4 #[.slice A xs.length c, .slice A' bs.length c'] w fun e w' => e = .returned (.bool true) ∧ Below w.heap.size w w' := by
  have H1 := Lib.hid h1; have H2 := Lib.hid h2; have HN1 := Lib.hid hn1; have HN2 := Lib.hid hn2
  clear h1 h2 hn1 hn2
  go_enter Try.func4, Try.ntmps4
  go_wp2_with fail
  refine (awake_any w).mono ?_; rintro e w1 ⟨rfl, hw1⟩
  have HB1 := Lib.hid hw1; have HA1 := Lib.hid (H1.out.up hw1); have HA2 := Lib.hid (H2.out.up hw1)
  clear hw1
  go_upto_region 2 with fail
  go_cut [6] from 16 (fun v6 wz => ∃ m : Bool, v6 = .bool m ∧ BothF xs bs m ∧ wz = w1)
  case first =>
    go_wp2_with fail
    refine (few_any _ xs w1 HA1.out).mono ?_; rintro e w2 ⟨m, rfl, hm, rfl⟩
    cases m with
    | false =>
      go_wp2_with fail
      go_meet
      exact ⟨false, rfl, (fun h => absurd h (by decide)), rfl⟩
    | true =>
      have HM := Lib.hid (hm rfl); clear hm
      go_wp2_with fail
      refine (few_any _ bs w2 HA2.out).mono ?_; rintro e w3 ⟨m, rfl, hm, rfl⟩
      have HM2 := Lib.hid hm; clear hm
      go_wp2_with fail
      go_meet
      exact ⟨m, rfl, fun h => ⟨HM.out, HM2.out h⟩, rfl⟩
  case rest =>
    obtain ⟨m, rfl, hm, rfl⟩ := hcut
    have HM := Lib.hid hm; clear hm
    go_upto_region 3 with fail
    go_cut [7] from 16 (fun v7 wz => ∃ o : Bool, v7 = .bool o ∧ BothO xs bs o ∧ Below w.heap.size w wz)
    case first =>
      have HI := Lib.hid (inOrder_refw _ xs wc HA1.out HN1.out)
      go_wp2_with fail
      refine HI.out.mono ?_; rintro e w2 ⟨rfl, hw2⟩
      have HB2 := Lib.hid (HB1.out.trans (hw2.mono HB1.out.size)); have HA22 := Lib.hid (HA2.out.up hw2)
      clear hw2 HI
      cases ho : inO (xs.map El.r) with
      | false =>
        go_wp2_with fail
        go_meet
        exact ⟨false, rfl, (fun h => absurd h (by decide)), HB2.out⟩
      | true =>
        have HO := Lib.hid ho; clear ho
        have HI := Lib.hid (inOrder_refw _ bs w2 HA22.out HN2.out)
        go_wp2_with fail
        refine HI.out.mono ?_; rintro e w3 ⟨rfl, hw3⟩
        have HB3 := Lib.hid (HB2.out.trans (hw3.mono HB2.out.size))
        clear hw3 HI
        go_wp2_with fail
        go_meet
        exact ⟨_, rfl, fun h => ⟨HO.out, h⟩, HB3.out⟩
    case rest =>
      obtain ⟨o, rfl, ho, hb⟩ := hcut
      have HO := Lib.hid ho; have HB := Lib.hid hb; have HX := Lib.hid (H1.out.up hb); have HY := Lib.hid (H2.out.up hb)
      clear ho hb HA1 HA2 HB1
      cases m with
      | false =>
        go_wp2_with fail
        go_ret
        exact ⟨by first | rfl | simp, HB.out⟩
      | true =>
        cases o with
        | false =>
          go_wp2_with fail
          go_ret
          exact ⟨by first | rfl | simp, HB.out⟩
        | true =>
          obtain ⟨fa, fb⟩ := HM.out rfl
          obtain ⟨oa, ob⟩ := HO.out rfl
          have FA := Lib.hid fa; have FB := Lib.hid fb; have OA := Lib.hid oa; have OB := Lib.hid ob
          have SA := Lib.hid (inO_srt oa); have SB := Lib.hid (inO_srt ob)
          clear fa fb oa ob HM HO
          have HLA : Hid (xs.length ≤ 1000) := FA.out.len
          have HLB : Hid (bs.length ≤ 1000) := FB.out.len
          have HC1 := Lib.hid (all_any (some ⟨wc.heap.size, 0, none⟩) 2 2 _ _ (lsts_two HX.out HY.out FA.out FB.out) (by omega) (by have := HLA.out; have := HLB.out; simp; omega))
          go_wp2_with fail
          refine HC1.out.mono ?_; rintro e w2 ha
          obtain ⟨⟨v2, q2, rfl, hr2, hm2, hz⟩, hw2⟩ := alls_ok ha (by intro x hx; simp only [List.mem_cons, List.not_mem_nil, or_false] at hx; rcases hx with rfl | rfl; exact OA.out; exact OB.out)
          have hw2' := (bnewH wc (.cells #[.slice A xs.length c, .slice A' bs.length c'] 25)).trans (hw2.mono (by simp))
          have E2 : Hid (q2.map El.r = two ord2 (xs.map El.r) (bs.map El.r)) := Lib.hid (merge2 toOrd hm2 SA.out SB.out)
          have R2 := Lib.hid hr2; have HB2 := Lib.hid (HB.out.trans (hw2'.mono HB.out.size)); have HX2 := Lib.hid (HX.out.up hw2'); have HY2 := Lib.hid (HY.out.up hw2')
          obtain ⟨A2, c2, rfl⟩ := hr2.form
          clear ha hz hr2 hm2 hw2 hw2' HC1 HB HX HY
          have HC2 := Lib.hid (all_any (some ⟨w2.heap.size, 0, none⟩) 2 2 _ _ (lsts_two HY2.out HX2.out FB.out FA.out) (by omega) (by have := HLA.out; have := HLB.out; simp; omega))
          go_wp2_with fail
          refine HC2.out.mono ?_; rintro e w3 ha
          obtain ⟨⟨v3, q3, rfl, hr3, hm3, hz⟩, hw3⟩ := alls_ok ha (by intro x hx; simp only [List.mem_cons, List.not_mem_nil, or_false] at hx; rcases hx with rfl | rfl; exact OB.out; exact OA.out)
          have hw3' := (bnewH w2 (.cells #[.slice A' bs.length c', .slice A xs.length c] 25)).trans (hw3.mono (by simp))
          have E3 : Hid (q3.map El.r = two ord2 (bs.map El.r) (xs.map El.r)) := Lib.hid (merge2 toOrd hm3 SB.out SA.out)
          have R3 := Lib.hid hr3; have R23 := Lib.hid (R2.out.up hw3'); have HB3 := Lib.hid (HB2.out.trans (hw3'.mono HB2.out.size)); have HX3 := Lib.hid (HX2.out.up hw3')
          obtain ⟨A3, c3, rfl⟩ := hr3.form
          clear ha hz hr3 hm3 hw3 hw3' HC2 HB2 HX2 HY2 R2
          have HC3 := Lib.hid (all_any (some ⟨w3.heap.size, 0, none⟩) 3 3 _ _ (lsts_mid HX3.out FA.out) (by omega) (by have := HLA.out; have := HLB.out; simp; omega))
          go_wp2_with fail
          refine HC3.out.mono ?_; rintro e w4 ha
          obtain ⟨⟨v4, q4, rfl, hr4, hm4, hz⟩, hw4⟩ := alls_ok ha (by intro x hx; simp only [List.mem_cons, List.not_mem_nil, or_false] at hx; rcases hx with rfl | rfl | rfl; rfl; exact OA.out; rfl)
          have hw4' := (bnewH w3 (.cells #[.slice none 0 0, .slice A xs.length c, .slice none 0 0] 25)).trans (hw4.mono (by simp))
          have E4 : Hid (q4.map El.r = xs.map El.r) := Lib.hid (merge_one toOrd hm4 SA.out)
          have R4 := Lib.hid hr4; have R24 := Lib.hid (R23.out.up hw4'); have R34 := Lib.hid (R3.out.up hw4'); have HB4 := Lib.hid (HB3.out.trans (hw4'.mono HB3.out.size)); have HX4 := Lib.hid (HX3.out.up hw4')
          obtain ⟨A4, c4, rfl⟩ := hr4.form
          clear ha hz hr4 hm4 hw4 hw4' HC3 HB3 HX3 R23 R3
          have hl4 : q4.length = xs.length := by have := congrArg List.length E4.out; simpa using this
          have hl2 : q2.length = (two ord2 (xs.map El.r) (bs.map El.r)).length := by have := congrArg List.length E2.out; simpa using this
          have hl3 : q3.length = (two ord2 (bs.map El.r) (xs.map El.r)).length := by have := congrArg List.length E3.out; simpa using this
          have hsw := two_len_swap SA.out SB.out
          have hle := twoG_len (o := ord2) (xs.map El.r) (bs.map El.r)
          simp only [List.length_map] at hle
          have hq23 : q3.length = q2.length := by omega
          have HEND : Hid (q2.map El.r = q3.map El.r ∨ q2.length < xs.length + bs.length) := Lib.hid (by
            by_cases hx : q2.length < xs.length + bs.length
            · exact .inr hx
            · left
              have := two_all toOrd _ _ SA.out SB.out (by simp only [List.length_map]; omega)
              rw [E2.out, E3.out, two_swap toOrd SA.out SB.out this])
          have hla : xs.length ≤ 1000 := HLA.out
          have hlb : bs.length ≤ 1000 := HLB.out
          have hq2 : q2.length ≤ 2000 := by omega
          clear hl2 hl3 hsw hle
          have HS1 := Lib.hid (sameAllB _ _ q4 xs w4 R4.out HX4.out (by omega) (by omega))
          rw [show decide (q4.map El.r = xs.map El.r) = true from decide_eq_true E4.out] at HS1
          have HL4 := Lib.hid hl4; have HQ23 := Lib.hid hq23; have HQ2 := Lib.hid hq2
          clear hl4 hq23 hq2 hla hlb
          go_wp2_with fail
          refine HS1.out.mono ?_; rintro e w5 ⟨rfl, hw5⟩
          have R25 := Lib.hid (R24.out.up hw5); have R35 := Lib.hid (R34.out.up hw5); have HB5 := Lib.hid (HB4.out.trans (hw5.mono HB4.out.size))
          clear hw5 HS1 R24 R34 HB4
          have HS2 := Lib.hid (sameAllB _ _ q2 q3 w5 R25.out R35.out (by have := HQ2.out; omega) (by have := HQ2.out; have := HQ23.out; omega))
          obtain ⟨t, ht⟩ : ∃ t, decide (q2.map El.r = q3.map El.r) = t := ⟨_, rfl⟩
          rw [ht] at HS2
          have HTT := Lib.hid ht; clear ht
          go_wp2_with fail
          refine HS2.out.mono ?_; rintro e w6 ⟨rfl, hw6⟩
          have HB6 := Lib.hid (HB5.out.trans (hw6.mono HB5.out.size))
          clear hw6 HS2 HB5
          obtain ⟨n2, hn2⟩ : ∃ n, q2.length = n := ⟨_, rfl⟩
          obtain ⟨n3, hn3⟩ : ∃ n, q3.length = n := ⟨_, rfl⟩
          have h23 : n3 = n2 := by rw [← hn2, ← hn3]; exact HQ23.out
          subst h23
          rw [hn2, hn3]
          have HN2 := Lib.hid hn2
          clear hn2 hn3
          cases t with
          | true =>
            go_wp2_with fail
            go_ret
            exact ⟨by first | rfl | (simp; omega), HB6.out⟩
          | false =>
            have hlt : n3 < xs.length + bs.length := by
              rcases HEND.out with h | h
              · have := HTT.out; rw [decide_eq_true h] at this; exact Bool.noConfusion this
              · rw [HN2.out] at h; exact h
            have hlt' : (n3 : Int) < (xs.length : Int) + (bs.length : Int) := by omega
            have hwr : IntKind.i64.wrap ((xs.length : Int) + (bs.length : Int)) = (xs.length : Int) + (bs.length : Int) := IntWalk.i64_in _ (by have := HLA.out; have := HLB.out; omega)
            clear hlt
            go_wp2_with fail
            go_ret
            exact ⟨by first | rfl | (simp; omega), HB6.out⟩
end Go.Proofs.Ytfcemlcocdhmfaa
