/- The walk of MergeAll. -/
import Derived.Test.YtfcemlcocdhmfaaLMAt
namespace Go.Proofs.Ytfcemlcocdhmfaa
open Go.RowKit Go
set_option linter.unusedVariables false
set_option linter.unusedSimpArgs false

theorem lsts_at {w w' : World} {A : Option Addr} {n : Nat} {ls : List Lst} (h1 : Rd w w.heap.size 1 A n (ls.map (·.1))) (h2 : ∀ x ∈ ls, RowB w x.1 x.2) (hn : ls.length = n) (hb : Below w.heap.size w w') {k : Nat} (hk : k < ls.length) :
    ∃ b off A' n' c', A = some ⟨b, off, none⟩ ∧ ls[k].1 = .slice A' n' c' ∧ w'.cell? ⟨b, off + k, none⟩ = some (.slice A' n' c') ∧ RowB w' ls[k].1 ls[k].2 := by
  obtain ⟨b, off, e, hb', hc⟩ := h1.2 (by omega)
  have g1 := h2 _ (List.getElem_mem hk)
  obtain ⟨A', c', e'⟩ := g1.form
  refine ⟨b, off, A', _, c', e, e', ?_, g1.up hb⟩
  rw [hb.cell (p := ⟨b, off + k, none⟩) hb', hc k (by omega), ← e']
  simp [hk]
theorem few_sum : ∀ (ls : List Lst), (∀ x ∈ ls, FewR x.2) → (ls.map fun x => x.2.length).sum ≤ ls.length * 1000
  | [], _ => by simp
  | x :: ls, h => by
    have h1 := (h x List.mem_cons_self).len
    have h2 := few_sum ls fun y hy => h y (List.mem_cons_of_mem _ hy)
    simp only [List.map_cons, List.sum_cons, List.length_cons]; omega
theorem lsts_few {w w' : World} {A : Option Addr} {n : Nat} {ls : List Lst} (h1 : Rd w w.heap.size 1 A n (ls.map (·.1))) (h2 : ∀ x ∈ ls, RowB w x.1 x.2) (hn : ls.length = n) (hb : Below w.heap.size w w') (hf : ∀ x ∈ ls, FewR x.2) : LstsB w' A n ls :=
  ⟨hn, (h1.below hb).wider hb.size, fun x hx => ⟨(h2 x hx).up hb, Nat.le_trans (hf x hx).len (by omega), (hf x hx).lens⟩⟩
theorem LstsB.up {w w' : World} {A : Option Addr} {n : Nat} {ls : List Lst} (h : LstsB w A n ls) (hb : Below w.heap.size w w') : LstsB w' A n ls :=
  ⟨h.1, (h.2.1.below hb).wider hb.size, fun x hx => ⟨(h.2.2 x hx).1.up hb, (h.2.2 x hx).2⟩⟩
theorem merge_few {ls : List Lst} {out : List Rc} (h : IsMerge ord2 (LL ls) out) (ho : ∀ x ∈ ls, inO (recs x) = true) : out.length ≤ (ls.map fun x => x.2.length).sum := by
  have h1 := merge_len toOrd h (fun l hl => by obtain ⟨x, hx, rfl⟩ := List.mem_map.1 hl; exact inO_srt (ho x hx))
  rw [LL, List.map_map] at h1
  have e : (List.length ∘ recs) = fun x : Lst => x.2.length := by funext x; simp [recs]
  rwa [e] at h1
theorem below_all {ls : List Lst} {w w' : World} {e : Ending} (h : Alls ls w e w') : Below w.heap.size w w' := h.2
set_option maxHeartbeats 1600000 in
theorem mergeAll_walk (A : Option Addr) (n c : Nat) (ls : List Lst) (w : World) (h1 : Rd w w.heap.size 1 A n (ls.map (·.1))) (h2 : ∀ x ∈ ls, RowB w x.1 x.2) (hn : ls.length = n) :
    Calls Try.prog 3 #[.slice A n c] w fun e w' => e = .returned (.bool true) ∧ Below w.heap.size w w' := by
  have H1 := Lib.hid h1; have H2 := Lib.hid h2; have HN := Lib.hid hn
  clear h1 h2 hn
  go_enter Try.func3, Try.ntmps3
  go_wp2_with fail
  refine (awake_any w).mono ?_; rintro e w1 ⟨rfl, hw1⟩
  have HB1 := Lib.hid hw1
  clear hw1
  by_cases h30 : 30 < n
  · have h30' : (30 : Int) < (n : Int) := by omega
    go_wp2_with fail
    go_ret
    exact ⟨by first | rfl | simp, HB1.out⟩
  · have h30' : (n : Int) ≤ 30 := by omega
    go_wp2_with fail
    go_loopg [4] n (fun g vi wr => ∃ k : Nat, g = n - k ∧ k ≤ n ∧ vi = .int .i64 k ∧ (∀ x ∈ ls.take k, FewR x.2) ∧ wr = w1)
    case atStart => exact ⟨0, rfl, Nat.zero_le _, rfl, by simp, rfl⟩
    case round =>
      obtain ⟨k, hg, hk, rfl, hf, rfl⟩ := hrel
      have HG := Lib.hid hg; have HF := Lib.hid hf
      clear hg hf
      by_cases hlt : k < n
      · have hkl : k < ls.length := by rw [HN.out]; exact hlt
        obtain ⟨b, off, A', n', c', rfl, e1, hc, hrow⟩ := lsts_at H1.out H2.out HN.out HB1.out hkl
        have i1 : (0 : Int) ≤ (k : Int) := by omega
        have i2 : (k : Int) < (n : Int) := by omega
        have HTK : Hid (ls.take (k + 1) = ls.take k ++ [ls[k]]) := List.take_succ_eq_append_getElem hkl
        generalize ls[k] = x at *
        obtain ⟨lv, els⟩ := x
        dsimp only at e1 hrow
        subst e1
        have HFW := Lib.hid (few_any _ els wr hrow)
        clear hrow
        go_wp2_with fail
        refine HFW.out.mono ?_; rintro e w2 ⟨m, rfl, hm, rfl⟩
        cases m with
        | false =>
          go_wp2_with fail
          go_ret
          exact ⟨by first | rfl | simp, HB1.out⟩
        | true =>
          have HM := Lib.hid (hm rfl); clear hm
          go_wp2_with fail
          go_roundg (n - (k + 1))
          case measure => have := HG.out; omega
          case rel => exact ⟨k + 1, rfl, by omega, by go_num, by
            intro x hx
            rw [HTK.out, List.mem_append, List.mem_singleton] at hx
            rcases hx with hx | hx
            · exact HF.out x hx
            · rw [hx]; exact HM.out, rfl⟩
      · have hkn : k = n := by omega
        subst hkn
        have HFA : Hid (∀ x ∈ ls, FewR x.2) := Lib.hid (by have := HF.out; rwa [List.take_of_length_le (by rw [HN.out]; exact Nat.le_refl _)] at this)
        have HLB := Lib.hid (lsts_few H1.out H2.out HN.out HB1.out HFA.out)
        have HS : Hid ((ls.map fun x => x.2.length).sum ≤ 30000) := Lib.hid (by have := few_sum ls HFA.out; rw [HN.out] at this; omega)
        have n1 : ¬ ((k : Int) < (k : Int)) := by omega
        have HA1 := Lib.hid (all_any A k c ls wr HLB.out (by omega) (by have := HS.out; omega))
        go_wp2_with fail
        refine HA1.out.mono ?_; rintro e w3 ⟨he, hw3⟩
        have HLB3 := Lib.hid (HLB.out.up hw3)
        have HB3 := Lib.hid (HB1.out.trans (hw3.mono HB1.out.size))
        have HA2 := Lib.hid (refAll_any A k c ls w3 HLB3.out (by omega) (by have := HS.out; omega))
        clear hw3
        by_cases ho : ∀ x ∈ ls, inO (recs x) = true
        · rw [if_pos ho] at he
          obtain ⟨v3, qs3, rfl, hr3, hm3, _⟩ := he
          have HR3 := Lib.hid hr3; have HM3 := Lib.hid hm3; have HO := Lib.hid ho
          clear hr3 hm3 ho
          go_wp2_with fail
          refine HA2.out.mono ?_; rintro e w4 ⟨he, hw4⟩
          rw [if_pos HO.out] at he
          obtain ⟨v4, qs4, rfl, hr4, hm4, _⟩ := he
          have HE : Hid (qs3.map El.r = qs4.map El.r) := Lib.hid (IsMerge.one toOrd HM3.out hm4)
          have HR34 := Lib.hid (HR3.out.up hw4)
          have HB4 := Lib.hid (HB3.out.trans (hw4.mono HB3.out.size))
          have HSA := Lib.hid (sameAllB v3 v4 qs3 qs4 w4 HR34.out hr4 (by have := merge_few HM3.out HO.out; rw [List.length_map] at this; have := HS.out; omega) (by have := merge_few hm4 HO.out; rw [List.length_map] at this; have := HS.out; omega))
          obtain ⟨A3, c3, rfl⟩ := HR3.out.form
          obtain ⟨A4, c4, rfl⟩ := hr4.form
          clear hr4 hm4 hw4
          go_wp2_with fail
          refine HSA.out.mono ?_; rintro e w5 ⟨rfl, hw5⟩
          have HB5 := Lib.hid (HB4.out.trans (hw5.mono HB4.out.size)); clear hw5
          rw [decide_eq_true HE.out]
          go_wp2_with fail
          go_ret
          exact ⟨by first | rfl | simp, HB5.out⟩
        · rw [if_neg ho] at he
          subst he
          have HO := Lib.hid ho
          clear ho
          go_wp2_with fail
          refine HA2.out.mono ?_; rintro e w4 ⟨he, hw4⟩
          rw [if_neg HO.out] at he
          subst he
          have HB4 := Lib.hid (HB3.out.trans (hw4.mono HB3.out.size))
          have HN0 : ∀ w, RowB w (.slice none 0 0) [] := fun w => ⟨none, 0, rfl, Nat.le_refl _, Rd.nil, by simp⟩
          have HSA := Lib.hid (sameAllB (.slice none 0 0) (.slice none 0 0) [] [] w4 (HN0 _) (HN0 _) (by simp) (by simp))
          clear hw4 HN0
          go_wp2_with fail
          refine HSA.out.mono ?_; rintro e w5 ⟨rfl, hw5⟩
          have HB5 := Lib.hid (HB4.out.trans (hw5.mono HB4.out.size)); clear hw5
          go_wp2_with fail
          go_ret
          exact ⟨by first | rfl | simp, HB5.out⟩
end Go.Proofs.Ytfcemlcocdhmfaa
