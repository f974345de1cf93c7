/- The walk of AllocTurned. -/
import Derived.Test.YtcojckgmmklffaaAL0
namespace Go.Proofs.Ytcojckgmmklffaa
open Go.RowKit Go
set_option linter.unusedVariables false
set_option linter.unusedSimpArgs false

theorem info_it : (Try.prog.info? 37).map (fun i => (i.zero, i.size, i.bytes)) = some (some (.agg #[.int .i64 0, .int .i64 0, .int .i64 0, .int .i64 0]), 4, 32) := by kernel_rfl
theorem rev_payE (its : List Dq) (a : Int) : payE its.reverse a = payE its a := by unfold payE; rw [rev_places]
theorem drop_rev (its : List Dq) (j : Nat) (h : j < its.length) : itCs (its.drop j).reverse = itCs (its.drop (j + 1)).reverse ++ itC its[j] := by
  rw [List.drop_eq_getElem_cons h, List.reverse_cons, itCs_app]; simp [itCs]
theorem own0 (w : World) (B t n : Nat) {k : Nat} {L : List Dq} (h : n - k = 0) (hm : L.length ≤ k) : w.ownsRow B t 4 (.slice none 0 0) (n - k) (itCs (L.drop k).reverse) := by
  rw [h, List.drop_eq_nil_of_le hm]; exact World.ownsRow_nil w B t 4

set_option maxRecDepth 100000 in
set_option maxHeartbeats 6400000 in
theorem allocTurned_walk (A : Option Addr) (its : List Dq) (a : Int) (n c : Nat) (w : World) (hn : its.length = n) (hr : Rd w w.heap.size 4 A n (itCs its)) (hm : n ≤ maxLen) :
    Calls Try.prog 7 #[.slice A n c, .int .i64 a] w fun e w' => e = .returned (.bool true) ∧ Below w.heap.size w w' := by
  unfold maxLen at hm
  obtain ⟨i0, hi, hz0, hz1', hz2⟩ := info_parts info_it
  have HN := Lib.hid hn; have HR := Lib.hid hr
  clear hn hr
  go_enter Try.func7, Try.ntmps7
  go_wp2_with fail
  refine (awake_any w).mono ?_; rintro e w1 ⟨rfl, hw1⟩
  have HW1 := Lib.hid hw1; have HR1 := Lib.hid ((HR.out.below hw1).wider hw1.size); have hz1 := hw1.size
  clear hw1
  by_cases h : n ≤ 500
  · go_wp2_with fail
    go_loopw [6, 7] (fun v i wr => ∃ q : Int, -1 ≤ q ∧ q < n ∧ i = .int .i64 q ∧ wr.ownsRow w1.heap.size 37 4 v (n - (q + 1).toNat) (itCs (its.drop (q + 1).toNat).reverse) ∧ Below w1.heap.size w1 wr) (fun _ i _ => (intOf i + 1).toNat)
    case atStart => exact ⟨(n : Nat) - 1, by omega, by omega, rfl, own0 w1 _ _ _ (by omega) (by have := HN.out; omega), Below.refl _ _⟩
    case round =>
      obtain ⟨q, hq0, hq1, rfl, hown, hbr⟩ := hrel
      by_cases hq : 0 ≤ q
      · obtain ⟨j, rfl⟩ := Int.eq_ofNat_of_zero_le hq
        have hj : j < its.length := by have := HN.out; omega
        have hzr := hbr.size
        obtain ⟨b, off, rfl, hb, x0, x1, x2, x3⟩ := (HR1.out.below hbr).it hj
        have HBR := Lib.hid hbr
        have HO := Lib.hid hown
        have HD := Lib.hid (drop_rev its j hj)
        clear hbr hown
        have i1 : (0 : Int) ≤ (j : Int) := by omega
        have i2 : (j : Int) < (n : Int) := by omega
        unfold itC at HD
        generalize its[j] = x at *
        go_wp2_with (at_builtin; refine wpList_app rfl (.tmp 27) (.tmp 32) _ rfl w1.heap.size 37 i0 _ 4 32 Try.underlying22 hi hz0 hz1' hz2 rfl (by omega) _ _ _ rfl (HO.out.alloc _) _ _ 1 1 [.int .i64 x.due, .int .i64 x.kind, .int .i64 x.per, .int .i64 x.opn] rfl (Rd.new (cs := #[.int .i64 x.due, .int .i64 x.kind, .int .i64 x.per, .int .i64 x.opn]) rfl rfl) (by simp [Value.oneCell']) (by unfold maxLen; omega) (by omega) (by simp; omega) ?_; intro v2 w2 hown2 hg2 hat2)
        refine ⟨⟨(j : Int) - 1, by omega, by omega, by go_num, ?_, ?_⟩, by first | (simp [intOf]; done) | (simp [intOf]; omega)⟩
        · have e1 : ((j : Int) - 1 + 1).toNat = j := by omega
          have e2 : ((j : Int) + 1).toNat = j + 1 := by omega
          have e3 : n - (j + 1) + 1 = n - j := by omega
          rw [e1]; rw [e2, e3] at hown2
          rw [HD.out]; exact hown2
        · exact (HBR.out.alloc hzr _).grown hg2 (by simp; omega) (fun k hk => (HO.out.lt k hk).1)
      · obtain rfl : q = -1 := by omega
        have e1 : ((-1 : Int) + 1).toNat = 0 := rfl
        rw [e1, Nat.sub_zero, List.drop_zero] at hown
        obtain ⟨A2, c2, rfl, _⟩ := own_form hown
        have HRT := Lib.hid (Rd.of_own hown)
        have HBR := Lib.hid (HW1.out.trans (hbr.mono hz1))
        have hzr := hbr.size
        have HP := Lib.hid (pay_n A its a n c wr HN.out ((HR1.out.below hbr).wider hzr) (by unfold maxLen; omega))
        clear hbr hown hq hq0 hq1 e1
        go_wp2_with fail
        refine HP.out.mono ?_
        intro e w2 hp
        obtain ⟨hb2, ⟨hne, rfl⟩ | ⟨he, X, cx, rfl, hrx, _⟩⟩ := hp
        · have HB2 := Lib.hid (HBR.out.trans (hb2.mono HBR.out.size))
          have HP2 := Lib.hid (pay_n A2 its.reverse a n c2 w2 (by rw [List.length_reverse]; exact HN.out) ((HRT.out.below hb2).wider hb2.size) (by unfold maxLen; omega))
          have HNE := Lib.hid hne
          clear hb2 hne
          go_wp2_with fail
          refine HP2.out.mono ?_
          intro e w3 hp
          obtain ⟨hb3, ⟨hne, rfl⟩ | ⟨he, Y, cy, rfl, hry, _⟩⟩ := hp
          · rw [rev_payE]
            have HB3 := Lib.hid (HB2.out.trans (hb3.mono HB2.out.size))
            clear hb3 hne
            go_wp2_with fail
            refine wp_loop_rounds 1 ?_
            rw [rounds_succ]
            go_wp2_with fail
            go_ret
            exact ⟨rfl, HB3.out⟩
          · exact absurd (by rw [rev_payE] at he; exact he) HNE.out
        · have HB2 := Lib.hid (HBR.out.trans (hb2.mono HBR.out.size))
          have HP2 := Lib.hid (pay_n A2 its.reverse a n c2 w2 (by rw [List.length_reverse]; exact HN.out) ((HRT.out.below hb2).wider hb2.size) (by unfold maxLen; omega))
          have HRX := Lib.hid hrx; have HE := Lib.hid he
          clear hb2 hrx he
          rw [HN.out] at HRX
          rw [HN.out]
          go_wp2_with fail
          refine HP2.out.mono ?_
          intro e w3 hp
          obtain ⟨hb3, ⟨hne, rfl⟩ | ⟨he, Y, cy, rfl, hry, _⟩⟩ := hp
          · exact absurd (by rw [rev_payE]; exact HE.out) hne
          · have HB3 := Lib.hid (HB2.out.trans (hb3.mono HB2.out.size))
            have HRX3 := Lib.hid ((HRX.out.below hb3).wider hb3.size)
            rw [rev_paid, List.length_reverse, HN.out] at hry
            rw [rev_left, List.length_reverse, HN.out]
            have HRY := Lib.hid hry
            have HL : Hid ((payL its a).length = n) := Lib.hid (by unfold payL; rw [List.length_map]; exact HN.out)
            clear hb3 hry he HRX HP2
            go_wp2_with fail
            go_loopg [14] n (fun gh vi wx => ∃ k : Nat, gh = n - k ∧ k ≤ n ∧ vi = .int .i64 k ∧ Below w3.heap.size w3 wx)
            case atStart => exact ⟨0, rfl, by omega, rfl, Below.refl _ _⟩
            case round =>
              obtain ⟨k, hgk, hk, rfl, hb⟩ := hrel
              have HG := Lib.hid hgk; have HB4 := Lib.hid hb
              clear hgk hb
              by_cases hlt : k < n
              · have h1 : k < (payL its a).length := by have := HL.out; omega
                have h2 : n - 1 - k < (payL its a).reverse.length := by rw [List.length_reverse]; have := HL.out; omega
                obtain ⟨b1, o1, rfl, hb1, x0⟩ := (HRX3.out.below HB4.out).num h1
                obtain ⟨b2, o2, rfl, hb2, y0⟩ := (HRY.out.below HB4.out).num h2
                have he : (payL its a).reverse[n - 1 - k] = (payL its a)[k] := by
                  rw [List.getElem_reverse]; congr 1; have := HL.out; omega
                rw [he] at y0
                clear he
                generalize (payL its a)[k] = x at *
                have i1 : (0 : Int) ≤ (k : Int) := by omega
                have i2 : (k : Int) < (n : Int) := by omega
                have s1 : IntKind.i64.wrap ((n : Int) - 1) = (n : Int) - 1 := IntWalk.i64_in _ (by omega)
                have s2 : IntKind.i64.wrap ((n : Int) - 1 - (k : Int)) = (n : Int) - 1 - (k : Int) := IntWalk.i64_in _ (by omega)
                have i3 : (0 : Int) ≤ (n : Int) - 1 - (k : Int) := by omega
                have i4 : (n : Int) - 1 - (k : Int) < (n : Int) := by omega
                have t1 : ((n : Int) - 1 - (k : Int)).toNat = n - 1 - k := by omega
                go_wp2_with fail
                go_quiet (fail)
                clear s1 s2 t1
                go_wp2_with fail
                go_roundg (n - (k + 1))
                case measure => have := HG.out; omega
                case rel => exact ⟨k + 1, rfl, by omega, by go_num, below_drewN HB4.out _⟩
              · go_wp2_with fail
                go_ret
                exact ⟨rfl, HB3.out.trans (HB4.out.mono HB3.out.size)⟩
  · go_wp2_with fail
    go_ret
    exact ⟨rfl, HW1.out⟩
end Go.Proofs.Ytcojckgmmklffaa
