/- The walks of MergeAt, MergeAll, MergeTurned. -/
import Derived.Test.YtfcemlcocdhmfaaAT4
import Derived.Test.YtfcemlcocdhmfaaXH
import Derived.Test.YtfcemlcocdhmfaaHW
import Derived.Test.YtfcemlcocdhmfaaXC
/- The walk of MergeAt. -/
namespace Go.Proofs.Ytfcemlcocdhmfaa
open Go.RowKit Go
set_option linter.unusedVariables false
set_option linter.unusedSimpArgs false

theorem FewR.lens {qs : List El} (h : FewR qs) : ∀ q ∈ qs, LenR q := fun q hq => ⟨Nat.le_trans (h.el q hq).1 (by omega), Nat.le_trans (h.el q hq).2 (by omega)⟩
theorem pairs_len {ps : List Pr} {seq : Int} {qs : List El} (h : ps.map Pr.p = AtS seq (qs.map El.r)) : ps.length ≤ qs.length := by
  have h1 := congrArg List.length h
  rw [List.length_map] at h1
  rw [h1, AtS]
  split
  · have := atS_len seq (qs.map El.r) none; simpa using this
  · simp
set_option maxHeartbeats 1600000 in
theorem mergeAt_walk (A : Option Addr) (c : Nat) (seq : Int) (qs : List El) (w : World) (h : RowB w (.slice A qs.length c) qs) :
    Calls Try.prog 5 #[.slice A qs.length c, .int .i64 seq] w fun e w' => e = .returned (.bool true) ∧ Below w.heap.size w w' := by
  have H := Lib.hid h; clear h
  go_enter Try.func5, Try.ntmps5
  go_wp2_with fail
  refine (awake_any w).mono ?_; rintro e w1 ⟨rfl, hw1⟩
  have HB1 := Lib.hid hw1; have H1 := Lib.hid (H.out.up hw1)
  clear hw1
  go_wp2_with fail
  refine (few_any _ qs w1 H1.out).mono ?_; rintro e w2 ⟨m, rfl, hm, rfl⟩
  cases m with
  | false =>
    go_wp2_with fail
    go_ret
    exact ⟨by first | rfl | simp, HB1.out⟩
  | true =>
    have HF := Lib.hid (hm rfl); clear hm
    have hl : qs.length ≤ 1000000000 := Nat.le_trans HF.out.len (by omega)
    have HL := Lib.hid hl; clear hl
    go_wp2_with fail
    refine (at_any _ seq qs w2 H1.out HL.out HF.out.lens).mono ?_; rintro e w3 ⟨⟨v3, ps, rfl, hr3, hp3⟩, hw3⟩
    have HR3 := Lib.hid hr3; have HP3 := Lib.hid hp3; have HB3 := Lib.hid (HB1.out.trans (hw3.mono HB1.out.size)); have H3 := Lib.hid (H1.out.up hw3)
    obtain ⟨A3, c3, rfl⟩ := hr3.form
    clear hr3 hp3 hw3
    go_wp2_with fail
    refine (atRef_any _ seq qs w3 H3.out HL.out).mono ?_; rintro e w4 ⟨⟨v4, ps', rfl, hr4, hp4⟩, hw4⟩
    have HR4 := Lib.hid hr4; have HP4 := Lib.hid hp4; have HB4 := Lib.hid (HB3.out.trans (hw4.mono HB3.out.size)); have HR34 := Lib.hid (HR3.out.up hw4)
    obtain ⟨A4, c4, rfl⟩ := hr4.form
    clear hr4 hp4 hw4
    have HE : Hid (ps.map Pr.p = ps'.map Pr.p) := Lib.hid (HP3.out.trans HP4.out.symm)
    have HSA := Lib.hid (sameAllP _ _ ps ps' w4 HR34.out HR4.out (by have := pairs_len HP3.out; have := HL.out; omega) (by have := pairs_len HP4.out; have := HL.out; omega))
    go_wp2_with fail
    refine HSA.out.mono ?_; rintro e w5 ⟨rfl, hw5⟩
    have HB5 := Lib.hid (HB4.out.trans (hw5.mono HB4.out.size)); clear hw5
    rw [decide_eq_true HE.out]
    go_wp2_with fail
    go_ret
    exact ⟨by first | rfl | simp, HB5.out⟩
end Go.Proofs.Ytfcemlcocdhmfaa
/- The walk of MergeAll. -/
namespace Go.Proofs.Ytfcemlcocdhmfaa
open Go.RowKit Go
set_option linter.unusedVariables false
set_option linter.unusedSimpArgs false

theorem lsts_at {w w' : World} {A : Option Addr} {n : Nat} {ls : List Lst} (h1 : Rd w w.heap.size 1 A n (ls.map (·.1))) (h2 : ∀ x ∈ ls, RowB w x.1 x.2) (hn : ls.length = n) (hb : Below w.heap.size w w') {k : Nat} (hk : k < ls.length) :
    ∃ b off A' n' c', A = some ⟨b, off, none⟩ ∧ ls[k].1 = .slice A' n' c' ∧ w'.cell? ⟨b, off + k, none⟩ = some (.slice A' n' c') ∧ RowB w' ls[k].1 ls[k].2 := by
  obtain ⟨b, off, e, hb', hc⟩ := h1.2 (by omega)
  have g1 := h2 _ (List.getElem_mem hk)
  obtain ⟨A', c', e'⟩ := g1.form
  refine ⟨b, off, A', _, c', e, e', ?_, g1.up hb⟩
  rw [hb.cell (p := ⟨b, off + k, none⟩) hb', hc k (by omega), ← e']
  simp [hk]
theorem few_sum : ∀ (ls : List Lst), (∀ x ∈ ls, FewR x.2) → (ls.map fun x => x.2.length).sum ≤ ls.length * 1000
  | [], _ => by simp
  | x :: ls, h => by
    have h1 := (h x List.mem_cons_self).len
    have h2 := few_sum ls fun y hy => h y (List.mem_cons_of_mem _ hy)
    simp only [List.map_cons, List.sum_cons, List.length_cons]; omega
theorem lsts_few {w w' : World} {A : Option Addr} {n : Nat} {ls : List Lst} (h1 : Rd w w.heap.size 1 A n (ls.map (·.1))) (h2 : ∀ x ∈ ls, RowB w x.1 x.2) (hn : ls.length = n) (hb : Below w.heap.size w w') (hf : ∀ x ∈ ls, FewR x.2) : LstsB w' A n ls :=
  ⟨hn, (h1.below hb).wider hb.size, fun x hx => ⟨(h2 x hx).up hb, Nat.le_trans (hf x hx).len (by omega), (hf x hx).lens⟩⟩
theorem LstsB.up {w w' : World} {A : Option Addr} {n : Nat} {ls : List Lst} (h : LstsB w A n ls) (hb : Below w.heap.size w w') : LstsB w' A n ls :=
  ⟨h.1, (h.2.1.below hb).wider hb.size, fun x hx => ⟨(h.2.2 x hx).1.up hb, (h.2.2 x hx).2⟩⟩
theorem merge_few {ls : List Lst} {out : List Rc} (h : IsMerge ord2 (LL ls) out) (ho : ∀ x ∈ ls, inO (recs x) = true) : out.length ≤ (ls.map fun x => x.2.length).sum := by
  have h1 := merge_len toOrd h (fun l hl => by obtain ⟨x, hx, rfl⟩ := List.mem_map.1 hl; exact inO_srt (ho x hx))
  rw [LL, List.map_map] at h1
  have e : (List.length ∘ recs) = fun x : Lst => x.2.length := by funext x; simp [recs]
  rwa [e] at h1
theorem below_all {ls : List Lst} {w w' : World} {e : Ending} (h : Alls ls w e w') : Below w.heap.size w w' := h.2
set_option maxHeartbeats 1600000 in
theorem mergeAll_walk (A : Option Addr) (n c : Nat) (ls : List Lst) (w : World) (h1 : Rd w w.heap.size 1 A n (ls.map (·.1))) (h2 : ∀ x ∈ ls, RowB w x.1 x.2) (hn : ls.length = n) :
    Calls Try.prog 3 #[.slice A n c] w fun e w' => e = .returned (.bool true) ∧ Below w.heap.size w w' := by
  have H1 := Lib.hid h1; have H2 := Lib.hid h2; have HN := Lib.hid hn
  clear h1 h2 hn
  go_enter Try.func3, Try.ntmps3
  go_wp2_with fail
  refine (awake_any w).mono ?_; rintro e w1 ⟨rfl, hw1⟩
  have HB1 := Lib.hid hw1
  clear hw1
  by_cases h30 : 30 < n
  · have h30' : (30 : Int) < (n : Int) := by omega
    go_wp2_with fail
    go_ret
    exact ⟨by first | rfl | simp, HB1.out⟩
  · have h30' : (n : Int) ≤ 30 := by omega
    go_wp2_with fail
    go_loopg [4] n (fun g vi wr => ∃ k : Nat, g = n - k ∧ k ≤ n ∧ vi = .int .i64 k ∧ (∀ x ∈ ls.take k, FewR x.2) ∧ wr = w1)
    case atStart => exact ⟨0, rfl, Nat.zero_le _, rfl, by simp, rfl⟩
    case round =>
      obtain ⟨k, hg, hk, rfl, hf, rfl⟩ := hrel
      have HG := Lib.hid hg; have HF := Lib.hid hf
      clear hg hf
      by_cases hlt : k < n
      · have hkl : k < ls.length := by rw [HN.out]; exact hlt
        obtain ⟨b, off, A', n', c', rfl, e1, hc, hrow⟩ := lsts_at H1.out H2.out HN.out HB1.out hkl
        have i1 : (0 : Int) ≤ (k : Int) := by omega
        have i2 : (k : Int) < (n : Int) := by omega
        have HTK : Hid (ls.take (k + 1) = ls.take k ++ [ls[k]]) := List.take_succ_eq_append_getElem hkl
        generalize ls[k] = x at *
        obtain ⟨lv, els⟩ := x
        dsimp only at e1 hrow
        subst e1
        have HFW := Lib.hid (few_any _ els wr hrow)
        clear hrow
        go_wp2_with fail
        refine HFW.out.mono ?_; rintro e w2 ⟨m, rfl, hm, rfl⟩
        cases m with
        | false =>
          go_wp2_with fail
          go_ret
          exact ⟨by first | rfl | simp, HB1.out⟩
        | true =>
          have HM := Lib.hid (hm rfl); clear hm
          go_wp2_with fail
          go_roundg (n - (k + 1))
          case measure => have := HG.out; omega
          case rel => exact ⟨k + 1, rfl, by omega, by go_num, by
            intro x hx
            rw [HTK.out, List.mem_append, List.mem_singleton] at hx
            rcases hx with hx | hx
            · exact HF.out x hx
            · rw [hx]; exact HM.out, rfl⟩
      · have hkn : k = n := by omega
        subst hkn
        have HFA : Hid (∀ x ∈ ls, FewR x.2) := Lib.hid (by have := HF.out; rwa [List.take_of_length_le (by rw [HN.out]; exact Nat.le_refl _)] at this)
        have HLB := Lib.hid (lsts_few H1.out H2.out HN.out HB1.out HFA.out)
        have HS : Hid ((ls.map fun x => x.2.length).sum ≤ 30000) := Lib.hid (by have := few_sum ls HFA.out; rw [HN.out] at this; omega)
        have n1 : ¬ ((k : Int) < (k : Int)) := by omega
        have HA1 := Lib.hid (all_any A k c ls wr HLB.out (by omega) (by have := HS.out; omega))
        go_wp2_with fail
        refine HA1.out.mono ?_; rintro e w3 ⟨he, hw3⟩
        have HLB3 := Lib.hid (HLB.out.up hw3)
        have HB3 := Lib.hid (HB1.out.trans (hw3.mono HB1.out.size))
        have HA2 := Lib.hid (refAll_any A k c ls w3 HLB3.out (by omega) (by have := HS.out; omega))
        clear hw3
        by_cases ho : ∀ x ∈ ls, inO (recs x) = true
        · rw [if_pos ho] at he
          obtain ⟨v3, qs3, rfl, hr3, hm3, _⟩ := he
          have HR3 := Lib.hid hr3; have HM3 := Lib.hid hm3; have HO := Lib.hid ho
          clear hr3 hm3 ho
          go_wp2_with fail
          refine HA2.out.mono ?_; rintro e w4 ⟨he, hw4⟩
          rw [if_pos HO.out] at he
          obtain ⟨v4, qs4, rfl, hr4, hm4, _⟩ := he
          have HE : Hid (qs3.map El.r = qs4.map El.r) := Lib.hid (IsMerge.one toOrd HM3.out hm4)
          have HR34 := Lib.hid (HR3.out.up hw4)
          have HB4 := Lib.hid (HB3.out.trans (hw4.mono HB3.out.size))
          have HSA := Lib.hid (sameAllB v3 v4 qs3 qs4 w4 HR34.out hr4 (by have := merge_few HM3.out HO.out; rw [List.length_map] at this; have := HS.out; omega) (by have := merge_few hm4 HO.out; rw [List.length_map] at this; have := HS.out; omega))
          obtain ⟨A3, c3, rfl⟩ := HR3.out.form
          obtain ⟨A4, c4, rfl⟩ := hr4.form
          clear hr4 hm4 hw4
          go_wp2_with fail
          refine HSA.out.mono ?_; rintro e w5 ⟨rfl, hw5⟩
          have HB5 := Lib.hid (HB4.out.trans (hw5.mono HB4.out.size)); clear hw5
          rw [decide_eq_true HE.out]
          go_wp2_with fail
          go_ret
          exact ⟨by first | rfl | simp, HB5.out⟩
        · rw [if_neg ho] at he
          subst he
          have HO := Lib.hid ho
          clear ho
          go_wp2_with fail
          refine HA2.out.mono ?_; rintro e w4 ⟨he, hw4⟩
          rw [if_neg HO.out] at he
          subst he
          have HB4 := Lib.hid (HB3.out.trans (hw4.mono HB3.out.size))
          have HN0 : ∀ w, RowB w (.slice none 0 0) [] := fun w => ⟨none, 0, rfl, Nat.le_refl _, Rd.nil, by simp⟩
          have HSA := Lib.hid (sameAllB (.slice none 0 0) (.slice none 0 0) [] [] w4 (HN0 _) (HN0 _) (by simp) (by simp))
          clear hw4 HN0
          go_wp2_with fail
          refine HSA.out.mono ?_; rintro e w5 ⟨rfl, hw5⟩
          have HB5 := Lib.hid (HB4.out.trans (hw5.mono HB4.out.size)); clear hw5
          go_wp2_with fail
          go_ret
          exact ⟨by first | rfl | simp, HB5.out⟩
end Go.Proofs.Ytfcemlcocdhmfaa
/- The walk of MergeTurned. -/
namespace Go.Proofs.Ytfcemlcocdhmfaa
open Go.RowKit Go
set_option linter.unusedVariables false
set_option linter.unusedSimpArgs false

theorem row_nil (w : World) : RowB w (.slice none 0 0) [] := ⟨none, 0, rfl, Nat.le_refl _, Rd.nil, by simp⟩
theorem lsts_two {w : World} {va vb : Value} {xs bs : List El} (ha : RowB w va xs) (hb : RowB w vb bs) (fa : FewR xs) (fb : FewR bs) :
    LstsB (w.alloc (.cells #[va, vb] 25)) (some ⟨w.heap.size, 0, none⟩) 2 [(va, xs), (vb, bs)] := by
  have hbe := bnewH w (.cells #[va, vb] 25)
  refine ⟨rfl, ⟨rfl, fun _ => ⟨w.heap.size, 0, rfl, by simp, fun j hj => ?_⟩⟩, fun x hx => ?_⟩
  · rw [blk_cell (blk_new w _ rfl)]
    have : j = 0 ∨ j = 1 := by omega
    rcases this with rfl | rfl <;> rfl
  · simp only [List.mem_cons, List.not_mem_nil, or_false] at hx
    rcases hx with rfl | rfl
    · exact ⟨ha.up hbe, Nat.le_trans fa.len (by omega), fa.lens⟩
    · exact ⟨hb.up hbe, Nat.le_trans fb.len (by omega), fb.lens⟩
theorem lsts_mid {w : World} {va : Value} {xs : List El} (ha : RowB w va xs) (fa : FewR xs) :
    LstsB (w.alloc (.cells #[.slice none 0 0, va, .slice none 0 0] 25)) (some ⟨w.heap.size, 0, none⟩) 3 [(.slice none 0 0, []), (va, xs), (.slice none 0 0, [])] := by
  have hbe := bnewH w (.cells #[.slice none 0 0, va, .slice none 0 0] 25)
  refine ⟨rfl, ⟨rfl, fun _ => ⟨w.heap.size, 0, rfl, by simp, fun j hj => ?_⟩⟩, fun x hx => ?_⟩
  · rw [blk_cell (blk_new w _ rfl)]
    have : j = 0 ∨ j = 1 ∨ j = 2 := by omega
    rcases this with rfl | rfl | rfl <;> rfl
  · simp only [List.mem_cons, List.not_mem_nil, or_false] at hx
    rcases hx with rfl | rfl | rfl
    · exact ⟨row_nil _, by simp, by simp⟩
    · exact ⟨ha.up hbe, Nat.le_trans fa.len (by omega), fa.lens⟩
    · exact ⟨row_nil _, by simp, by simp⟩
/-- All's answer, where the lists are in order. -/
theorem alls_ok {ls : List Lst} {w w' : World} {e : Ending} (h : Alls ls w e w') (ho : ∀ x ∈ ls, inO (recs x) = true) :
    (∃ vo qs, e = .returned (.tuple #[vo, .int .i64 0]) ∧ RowB w' vo qs ∧ IsMerge ord2 (LL ls) (qs.map El.r) ∧ ∀ q ∈ qs, LenR q) ∧ Below w.heap.size w w' := by
  obtain ⟨he, hb⟩ := h
  rw [if_pos ho] at he
  exact ⟨he, hb⟩
/-- Both lists are few. -/
def BothF (a b : List El) (m : Bool) : Prop := m = true → FewR a ∧ FewR b
def BothO (a b : List El) (m : Bool) : Prop := m = true → inO (a.map El.r) = true ∧ inO (b.map El.r) = true
set_option maxHeartbeats 3200000 in
set_option maxRecDepth 100000 in
theorem mergeTurned_walk (A A' : Option Addr) (c c' : Nat) (xs bs : List El) (w : World) (h1 : RowB w (.slice A xs.length c) xs) (h2 : RowB w (.slice A' bs.length c') bs) (hn1 : xs.length ≤ 9223372036854775807) (hn2 : bs.length ≤ 9223372036854775807) :
    Calls Try.prog 4 #[.slice A xs.length c, .slice A' bs.length c'] w fun e w' => e = .returned (.bool true) ∧ Below w.heap.size w w' := by
  have H1 := Lib.hid h1; have H2 := Lib.hid h2; have HN1 := Lib.hid hn1; have HN2 := Lib.hid hn2
  clear h1 h2 hn1 hn2
  go_enter Try.func4, Try.ntmps4
  go_wp2_with fail
  refine (awake_any w).mono ?_; rintro e w1 ⟨rfl, hw1⟩
  have HB1 := Lib.hid hw1; have HA1 := Lib.hid (H1.out.up hw1); have HA2 := Lib.hid (H2.out.up hw1)
  clear hw1
  go_upto_region 2 with fail
  go_cut [6] from 16 (fun v6 wz => ∃ m : Bool, v6 = .bool m ∧ BothF xs bs m ∧ wz = w1)
  case first =>
    go_wp2_with fail
    refine (few_any _ xs w1 HA1.out).mono ?_; rintro e w2 ⟨m, rfl, hm, rfl⟩
    cases m with
    | false =>
      go_wp2_with fail
      go_meet
      exact ⟨false, rfl, (fun h => absurd h (by decide)), rfl⟩
    | true =>
      have HM := Lib.hid (hm rfl); clear hm
      go_wp2_with fail
      refine (few_any _ bs w2 HA2.out).mono ?_; rintro e w3 ⟨m, rfl, hm, rfl⟩
      have HM2 := Lib.hid hm; clear hm
      go_wp2_with fail
      go_meet
      exact ⟨m, rfl, fun h => ⟨HM.out, HM2.out h⟩, rfl⟩
  case rest =>
    obtain ⟨m, rfl, hm, rfl⟩ := hcut
    have HM := Lib.hid hm; clear hm
    go_upto_region 3 with fail
    go_cut [7] from 16 (fun v7 wz => ∃ o : Bool, v7 = .bool o ∧ BothO xs bs o ∧ Below w.heap.size w wz)
    case first =>
      have HI := Lib.hid (inOrder_refw _ xs wc HA1.out HN1.out)
      go_wp2_with fail
      refine HI.out.mono ?_; rintro e w2 ⟨rfl, hw2⟩
      have HB2 := Lib.hid (HB1.out.trans (hw2.mono HB1.out.size)); have HA22 := Lib.hid (HA2.out.up hw2)
      clear hw2 HI
      cases ho : inO (xs.map El.r) with
      | false =>
        go_wp2_with fail
        go_meet
        exact ⟨false, rfl, (fun h => absurd h (by decide)), HB2.out⟩
      | true =>
        have HO := Lib.hid ho; clear ho
        have HI := Lib.hid (inOrder_refw _ bs w2 HA22.out HN2.out)
        go_wp2_with fail
        refine HI.out.mono ?_; rintro e w3 ⟨rfl, hw3⟩
        have HB3 := Lib.hid (HB2.out.trans (hw3.mono HB2.out.size))
        clear hw3 HI
        go_wp2_with fail
        go_meet
        exact ⟨_, rfl, fun h => ⟨HO.out, h⟩, HB3.out⟩
    case rest =>
      obtain ⟨o, rfl, ho, hb⟩ := hcut
      have HO := Lib.hid ho; have HB := Lib.hid hb; have HX := Lib.hid (H1.out.up hb); have HY := Lib.hid (H2.out.up hb)
      clear ho hb HA1 HA2 HB1
      cases m with
      | false =>
        go_wp2_with fail
        go_ret
        exact ⟨by first | rfl | simp, HB.out⟩
      | true =>
        cases o with
        | false =>
          go_wp2_with fail
          go_ret
          exact ⟨by first | rfl | simp, HB.out⟩
        | true =>
          obtain ⟨fa, fb⟩ := HM.out rfl
          obtain ⟨oa, ob⟩ := HO.out rfl
          have FA := Lib.hid fa; have FB := Lib.hid fb; have OA := Lib.hid oa; have OB := Lib.hid ob
          have SA := Lib.hid (inO_srt oa); have SB := Lib.hid (inO_srt ob)
          clear fa fb oa ob HM HO
          have HLA : Hid (xs.length ≤ 1000) := FA.out.len
          have HLB : Hid (bs.length ≤ 1000) := FB.out.len
          have HC1 := Lib.hid (all_any (some ⟨wc.heap.size, 0, none⟩) 2 2 _ _ (lsts_two HX.out HY.out FA.out FB.out) (by omega) (by have := HLA.out; have := HLB.out; simp; omega))
          go_wp2_with fail
          refine HC1.out.mono ?_; rintro e w2 ha
          obtain ⟨⟨v2, q2, rfl, hr2, hm2, hz⟩, hw2⟩ := alls_ok ha (by intro x hx; simp only [List.mem_cons, List.not_mem_nil, or_false] at hx; rcases hx with rfl | rfl; exact OA.out; exact OB.out)
          have hw2' := (bnewH wc (.cells #[.slice A xs.length c, .slice A' bs.length c'] 25)).trans (hw2.mono (by simp))
          have E2 : Hid (q2.map El.r = two ord2 (xs.map El.r) (bs.map El.r)) := Lib.hid (merge2 toOrd hm2 SA.out SB.out)
          have R2 := Lib.hid hr2; have HB2 := Lib.hid (HB.out.trans (hw2'.mono HB.out.size)); have HX2 := Lib.hid (HX.out.up hw2'); have HY2 := Lib.hid (HY.out.up hw2')
          obtain ⟨A2, c2, rfl⟩ := hr2.form
          clear ha hz hr2 hm2 hw2 hw2' HC1 HB HX HY
          have HC2 := Lib.hid (all_any (some ⟨w2.heap.size, 0, none⟩) 2 2 _ _ (lsts_two HY2.out HX2.out FB.out FA.out) (by omega) (by have := HLA.out; have := HLB.out; simp; omega))
          go_wp2_with fail
          refine HC2.out.mono ?_; rintro e w3 ha
          obtain ⟨⟨v3, q3, rfl, hr3, hm3, hz⟩, hw3⟩ := alls_ok ha (by intro x hx; simp only [List.mem_cons, List.not_mem_nil, or_false] at hx; rcases hx with rfl | rfl; exact OB.out; exact OA.out)
          have hw3' := (bnewH w2 (.cells #[.slice A' bs.length c', .slice A xs.length c] 25)).trans (hw3.mono (by simp))
          have E3 : Hid (q3.map El.r = two ord2 (bs.map El.r) (xs.map El.r)) := Lib.hid (merge2 toOrd hm3 SB.out SA.out)
          have R3 := Lib.hid hr3; have R23 := Lib.hid (R2.out.up hw3'); have HB3 := Lib.hid (HB2.out.trans (hw3'.mono HB2.out.size)); have HX3 := Lib.hid (HX2.out.up hw3')
          obtain ⟨A3, c3, rfl⟩ := hr3.form
          clear ha hz hr3 hm3 hw3 hw3' HC2 HB2 HX2 HY2 R2
          have HC3 := Lib.hid (all_any (some ⟨w3.heap.size, 0, none⟩) 3 3 _ _ (lsts_mid HX3.out FA.out) (by omega) (by have := HLA.out; have := HLB.out; simp; omega))
          go_wp2_with fail
          refine HC3.out.mono ?_; rintro e w4 ha
          obtain ⟨⟨v4, q4, rfl, hr4, hm4, hz⟩, hw4⟩ := alls_ok ha (by intro x hx; simp only [List.mem_cons, List.not_mem_nil, or_false] at hx; rcases hx with rfl | rfl | rfl; rfl; exact OA.out; rfl)
          have hw4' := (bnewH w3 (.cells #[.slice none 0 0, .slice A xs.length c, .slice none 0 0] 25)).trans (hw4.mono (by simp))
          have E4 : Hid (q4.map El.r = xs.map El.r) := Lib.hid (merge_one toOrd hm4 SA.out)
          have R4 := Lib.hid hr4; have R24 := Lib.hid (R23.out.up hw4'); have R34 := Lib.hid (R3.out.up hw4'); have HB4 := Lib.hid (HB3.out.trans (hw4'.mono HB3.out.size)); have HX4 := Lib.hid (HX3.out.up hw4')
          obtain ⟨A4, c4, rfl⟩ := hr4.form
          clear ha hz hr4 hm4 hw4 hw4' HC3 HB3 HX3 R23 R3
          have hl4 : q4.length = xs.length := by have := congrArg List.length E4.out; simpa using this
          have hl2 : q2.length = (two ord2 (xs.map El.r) (bs.map El.r)).length := by have := congrArg List.length E2.out; simpa using this
          have hl3 : q3.length = (two ord2 (bs.map El.r) (xs.map El.r)).length := by have := congrArg List.length E3.out; simpa using this
          have hsw := two_len_swap SA.out SB.out
          have hle := twoG_len (o := ord2) (xs.map El.r) (bs.map El.r)
          simp only [List.length_map] at hle
          have hq23 : q3.length = q2.length := by omega
          have HEND : Hid (q2.map El.r = q3.map El.r ∨ q2.length < xs.length + bs.length) := Lib.hid (by
            by_cases hx : q2.length < xs.length + bs.length
            · exact .inr hx
            · left
              have := two_all toOrd _ _ SA.out SB.out (by simp only [List.length_map]; omega)
              rw [E2.out, E3.out, two_swap toOrd SA.out SB.out this])
          have hla : xs.length ≤ 1000 := HLA.out
          have hlb : bs.length ≤ 1000 := HLB.out
          have hq2 : q2.length ≤ 2000 := by omega
          clear hl2 hl3 hsw hle
          have HS1 := Lib.hid (sameAllB _ _ q4 xs w4 R4.out HX4.out (by omega) (by omega))
          rw [show decide (q4.map El.r = xs.map El.r) = true from decide_eq_true E4.out] at HS1
          have HL4 := Lib.hid hl4; have HQ23 := Lib.hid hq23; have HQ2 := Lib.hid hq2
          clear hl4 hq23 hq2 hla hlb
          go_wp2_with fail
          refine HS1.out.mono ?_; rintro e w5 ⟨rfl, hw5⟩
          have R25 := Lib.hid (R24.out.up hw5); have R35 := Lib.hid (R34.out.up hw5); have HB5 := Lib.hid (HB4.out.trans (hw5.mono HB4.out.size))
          clear hw5 HS1 R24 R34 HB4
          have HS2 := Lib.hid (sameAllB _ _ q2 q3 w5 R25.out R35.out (by have := HQ2.out; omega) (by have := HQ2.out; have := HQ23.out; omega))
          obtain ⟨t, ht⟩ : ∃ t, decide (q2.map El.r = q3.map El.r) = t := ⟨_, rfl⟩
          rw [ht] at HS2
          have HTT := Lib.hid ht; clear ht
          go_wp2_with fail
          refine HS2.out.mono ?_; rintro e w6 ⟨rfl, hw6⟩
          have HB6 := Lib.hid (HB5.out.trans (hw6.mono HB5.out.size))
          clear hw6 HS2 HB5
          obtain ⟨n2, hn2⟩ : ∃ n, q2.length = n := ⟨_, rfl⟩
          obtain ⟨n3, hn3⟩ : ∃ n, q3.length = n := ⟨_, rfl⟩
          have h23 : n3 = n2 := by rw [← hn2, ← hn3]; exact HQ23.out
          subst h23
          rw [hn2, hn3]
          have HN2 := Lib.hid hn2
          clear hn2 hn3
          cases t with
          | true =>
            go_wp2_with fail
            go_ret
            exact ⟨by first | rfl | (simp; omega), HB6.out⟩
          | false =>
            have hlt : n3 < xs.length + bs.length := by
              rcases HEND.out with h | h
              · have := HTT.out; rw [decide_eq_true h] at this; exact Bool.noConfusion this
              · rw [HN2.out] at h; exact h
            have hlt' : (n3 : Int) < (xs.length : Int) + (bs.length : Int) := by omega
            have hwr : IntKind.i64.wrap ((xs.length : Int) + (bs.length : Int)) = (xs.length : Int) + (bs.length : Int) := IntWalk.i64_in _ (by have := HLA.out; have := HLB.out; omega)
            clear hlt
            go_wp2_with fail
            go_ret
            exact ⟨by first | rfl | (simp; omega), HB6.out⟩
end Go.Proofs.Ytfcemlcocdhmfaa
