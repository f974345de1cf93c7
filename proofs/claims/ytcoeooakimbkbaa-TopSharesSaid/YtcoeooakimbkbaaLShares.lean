/- The walk of TopShares. -/
import Derived.Test.YtcoeooakimbkbaaSH
import Derived.Test.YtcoeooakimbkbaaO
namespace Go.Proofs.Ytcoeooakimbkbaa
open Go.RowKit Go
set_option linter.unusedVariables false
set_option linter.unusedSimpArgs false

theorem info_itS : (Try.prog.info? 28).map (fun i => (i.zero, i.size, i.bytes)) = some (some (.agg #[.int .i64 0, .int .i64 0, .int .i64 0, .int .i64 0]), 4, 32) := by kernel_rfl
theorem okSp_two : okSp 2 [1, 1] = true := by decide
theorem itC_shI (k : Nat) (x : Int) : itC ⟨100 + k, (k % 3 : Nat), 1 + k, x⟩ = [.int .i64 (100 + (k : Int)), .int .i64 ((k : Int) % 3), .int .i64 (1 + (k : Int)), .int .i64 x] := rfl
theorem own_shI0 (w : World) (B t : Nat) {l : List Int} : w.ownsRow B t 4 (.slice none 0 0) 0 (itCs (shI (l.take 0))) := World.ownsRow_nil w B t 4
theorem shI_step (l : List Int) (k : Nat) (h : k < l.length) : itCs (shI (l.take (k + 1))) = itCs (shI (l.take k)) ++ itC ⟨100 + k, (k % 3 : Nat), 1 + k, l[k]⟩ := by
  rw [shI_take l k h, itCs_app]; simp [itCs]
/-- What is paid of shares. -/
theorem shares_pay {a p : Int} {l : List Int} (hn : l.length ≤ 60) (h0 : ∀ x ∈ l, 0 ≤ x) (hs : l.sum = a) (ha : a ≤ 1125899906842624) (hp : 0 ≤ p ∧ p ≤ 1125899906842624) :
    payE (shI l) p = 0 ∧ totalS (shI l) = (a, 0) ∧ (payL (shI l) p).sum = min a p ∧ leftI (shI l) p = p - min a p ∧ sumS (payL (shI l) p) = (min a p, 0) := by
  have hb : ∀ x ∈ l, 0 ≤ x ∧ x ≤ 4611686018427387904 := fun x hx => ⟨h0 x hx, by have := le_sum h0 hx; omega⟩
  have hpl := shI_places hn hb
  have e1 : payE (shI l) p = 0 := by unfold payE; rw [if_pos ⟨hp.1, by omega⟩]; exact hpl
  have e2 : totalS (shI l) = (a, 0) := by
    unfold totalS; rw [if_pos hpl, shI_opn]; exact sum_all h0 hs (by omega)
  have e3 := pay_sumP e1
  have e4 : leftI (shI l) p = p - min a p := by unfold leftI; rw [shI_opens, hs]; omega
  have e5 : (payL (shI l) p).sum = min a p := by omega
  have h1 : ∀ x ∈ payL (shI l) p, 0 ≤ x := fun x hx => by
    obtain ⟨i, hi, rfl⟩ := List.mem_iff_getElem.1 hx
    exact (pay_bdP e1 i (by rw [payL_lenP] at hi; exact hi)).1
  exact ⟨e1, e2, e5, e4, sum_all h1 e5 (by omega)⟩
set_option maxRecDepth 100000 in
set_option maxHeartbeats 6400000 in
theorem topShares_walk (a p : Int) (A : Option Addr) (ws : List Int) (n c : Nat) (w : World) (hn : ws.length = n) (hr : Rd w w.heap.size 1 A n (ints ws)) (hm : n ≤ maxLen) :
    Calls Try.prog 3 #[.int .i64 a, .slice A n c, .int .i64 p] w fun e w' => e = .returned (.bool true) ∧ Below w.heap.size w w' := by
  unfold maxLen at hm
  obtain ⟨i0, hi, hy0, hy1, hy2⟩ := info_parts info_itS
  have HN := Lib.hid hn; have HR := Lib.hid hr
  clear hn hr
  have hc : Rd (w.alloc (.cells #[.int .i64 1, .int .i64 1] 2)) (w.alloc (.cells #[.int .i64 1, .int .i64 1] 2)).heap.size 1 (some ⟨w.heap.size, 0, none⟩) 2 (ints [1, 1]) := Rd.fresh w #[.int .i64 1, .int .i64 1] 2 2 1 rfl
  have HS2 := Lib.hid (split_any 2 (some ⟨w.heap.size, 0, none⟩) [1, 1] 2 2 _ rfl hc (by unfold maxLen; omega))
  clear hc
  go_enter Try.func3, Try.ntmps3
  go_wp2_with fail
  refine HS2.out.mono ?_; intro e w1 h
  obtain ⟨hb1, ⟨hno, _⟩ | ⟨_, g, cg, l2, rfl, hsp, hrd⟩⟩ := h
  · exact absurd okSp_two (by rw [hno]; decide)
  have e2 := split_two hsp
  subst e2
  have HW1 : Hid (Below w.heap.size w w1) := Lib.hid ((below_new _ _).trans (hb1.mono (by simp)))
  obtain ⟨b0, o0, hA0, hbl0, c0⟩ := hrd.num (k := 0) (by decide)
  simp only [Option.some.injEq, Addr.mk.injEq] at hA0
  obtain ⟨rfl, rfl, -⟩ := hA0
  simp only [List.getElem_cons_zero, Nat.add_zero] at c0
  have l2e : ([1, 1] : List Int).length = 2 := rfl
  rw [l2e]
  have HR1 := Lib.hid ((HR.out.below HW1.out).wider HW1.out.size)
  have hz1 := HW1.out.size
  clear hb1 hsp hrd hbl0 l2e HS2
  by_cases hcond : (0 ≤ a ∧ a ≤ 1125899906842624) ∧ (0 ≤ p ∧ p ≤ 1125899906842624) ∧ n ≤ 60
  · obtain ⟨⟨a1, a2⟩, ⟨p1, p2⟩, n1⟩ := hcond
    have HSP := Lib.hid (split_any a A ws n c w1 HN.out HR1.out (by unfold maxLen; omega))
    have d1 : decide (a < 0) = false := decide_eq_false (by omega)
    have d2 : decide (1125899906842624 < a) = false := decide_eq_false (by omega)
    have d3 : decide (p < 0) = false := decide_eq_false (by omega)
    have d4 : decide (1125899906842624 < p) = false := decide_eq_false (by omega)
    have d5 : decide (60 < (n : Int)) = false := decide_eq_false (by omega)
    go_wp2_with fail
    refine HSP.out.mono ?_; intro e w2 h
    obtain ⟨hb2, ⟨hno, rfl⟩ | ⟨hyes, g, cg, l, rfl, hsp, hrd⟩⟩ := h
    · have HW2 := Lib.hid (HW1.out.trans (hb2.mono hz1))
      clear hb2 hno
      go_wp2_with fail
      go_ret
      exact ⟨rfl, HW2.out⟩
    · have HW2 := Lib.hid (HW1.out.trans (hb2.mono hz1))
      obtain ⟨q1, q2, q3, q4, q5, q6, q7⟩ := okSp_parts hyes
      have hll : l.length = n := by rw [hsp.len, HN.out]
      rw [HN.out] at hrd
      rw [HN.out]
      have hl0 := hsp.nonneg a1 q3 q7
      have hpay := shares_pay (by rw [hll]; exact n1) hl0 hsp.sum a2 ⟨p1, p2⟩
      have HL := Lib.hid hll
      have HRD := Lib.hid hrd
      have HPAY := Lib.hid hpay
      have HBD : Hid (∀ x ∈ l, 0 ≤ x ∧ x ≤ a) := Lib.hid (fun x hx => ⟨hl0 x hx, by have := le_sum hl0 hx; have := hsp.sum; omega⟩)
      have hz2 := HW2.out.size
      clear hb2 hyes hsp hrd hpay hl0 hll q1 q2 q3 q4 q5 q6 q7 d1 d2 d3 d4 d5 c0 HSP
      go_wp2_with fail
      go_loopg [11, 12] n (fun gh v vi wr => ∃ k : Nat, gh = n - k ∧ k ≤ n ∧ vi = .int .i64 k ∧ wr.ownsRow w2.heap.size 28 4 v k (itCs (shI (l.take k))) ∧ Below w2.heap.size w2 wr)
      case atStart => exact ⟨0, rfl, by omega, rfl, own_shI0 w2 _ _, Below.refl _ _⟩
      case round =>
        obtain ⟨k, hgk, hk, rfl, hown, hbr⟩ := hrel
        have HG := Lib.hid hgk
        clear hgk
        by_cases hlt : k < n
        · have hk' : k < l.length := by have := HL.out; omega
          have hzr := hbr.size
          obtain ⟨b, off, hA, hb, x0⟩ := (HRD.out.below hbr).numW hk'
          simp only [Option.some.injEq, Addr.mk.injEq] at hA
          obtain ⟨rfl, rfl, -⟩ := hA
          rw [Nat.zero_add] at x0
          have HBR := Lib.hid hbr
          have HO := Lib.hid hown
          have HD := Lib.hid (shI_step l k hk')
          clear hbr hown
          rw [itC_shI] at HD
          have i1 : (0 : Int) ≤ (k : Int) := by omega
          have i2 : (k : Int) < (n : Int) := by omega
          have s1 : IntKind.i64.wrap (100 + (k : Int)) = 100 + (k : Int) := IntWalk.i64_in _ (by omega)
          have s2 : IntKind.i64.wrap (1 + (k : Int)) = 1 + (k : Int) := IntWalk.i64_in _ (by omega)
          have s3 : Int.tmod (k : Int) 3 = ((k % 3 : Nat) : Int) := by rw [Int.tmod_eq_emod_of_nonneg (by omega)]; omega
          have s4 : IntKind.i64.wrap ((k % 3 : Nat) : Int) = ((k % 3 : Nat) : Int) := IntWalk.i64_in _ (by omega)
          generalize l[k] = x at *
          go_wp2_with (at_builtin; go_loud (refine wpList_app rfl (.tmp 74) (.tmp 86) _ rfl w2.heap.size 28 i0 _ 4 32 Try.underlying26 hi hy0 hy1 hy2 rfl (by omega) _ _ _ rfl (HO.out.alloc _) _ _ 1 1 [.int .i64 (100 + (k : Int)), .int .i64 ((k : Int) % 3), .int .i64 (1 + (k : Int)), .int .i64 x] rfl (Rd.new (cs := #[.int .i64 (100 + (k : Int)), .int .i64 ((k : Int) % 3), .int .i64 (1 + (k : Int)), .int .i64 x]) rfl rfl) (by simp [Value.oneCell']) (by unfold maxLen; omega) (by omega) (by simp; omega) ?_); intro v3 w3 hown2 hg2 hat2)
          go_roundg (n - (k + 1))
          case measure => have := HG.out; omega
          case rel => exact ⟨k + 1, rfl, by omega, by go_num, by rw [HD.out]; exact hown2, (HBR.out.alloc hzr _).grown hg2 (by simp; omega) (fun j hj => (HO.out.lt j hj).1)⟩
        · have hkn : k = n := by omega
          subst hkn
          have ht : l.take k = l := List.take_of_length_le (by have := HL.out; omega)
          rw [ht] at hown
          obtain ⟨A2, c2, rfl, _⟩ := own_form hown
          have HRT := Lib.hid (Rd.of_own hown)
          have HBR := Lib.hid (HW2.out.trans (hbr.mono hz2))
          have hzr := hbr.size
          have HLI : Hid ((shI l).length = k) := Lib.hid (by rw [shI_len]; exact HL.out)
          have HRD2 := Lib.hid ((HRD.out.below hbr).wider hzr)
          have HP := Lib.hid (pay_n A2 (shI l) p k c2 wr HLI.out HRT.out (by unfold maxLen; omega))
          clear hbr hown hlt ht HG HRD hi hy0 hy1 hy2
          go_wp2_with fail
          refine HP.out.mono ?_
          intro e w3 hp
          obtain ⟨hb3, ⟨hne, _⟩ | ⟨he, X, cx, rfl, hrx, _⟩⟩ := hp
          · exact absurd HPAY.out.1 hne
          rw [HLI.out] at hrx
          rw [HLI.out, HPAY.out.2.2.2.1]
          have HB3 := Lib.hid (HBR.out.trans (hb3.mono HBR.out.size))
          have HRX := Lib.hid hrx
          have HRD3 := Lib.hid ((HRD2.out.below hb3).wider hb3.size)
          have HT := Lib.hid (total_any A2 (shI l) k c2 w3 HLI.out ((HRT.out.below hb3).wider hb3.size) (by unfold maxLen; omega))
          rw [HPAY.out.2.1] at HT
          clear hb3 hrx he HP HRD2 HRT
          go_wp2_with fail
          refine HT.out.mono ?_
          rintro e w4 ⟨rfl, hb4⟩
          have HB4 := Lib.hid (HB3.out.trans (hb4.mono HB3.out.size))
          have HRX4 := Lib.hid ((HRX.out.below hb4).wider hb4.size)
          have HRD4 := Lib.hid ((HRD3.out.below hb4).wider hb4.size)
          have HSM := Lib.hid (sum_n X k cx (payL (shI l) p) w4 HRX4.out (by omega))
          rw [HPAY.out.2.2.2.2] at HSM
          clear hb4 HRX HRD3 HT
          have hq1 : (a != a) = false := by simp
          have hq2 : ((k : Int) != (k : Int)) = false := by simp
          go_wp2_with fail
          clear hq1 hq2
          refine HSM.out.mono ?_
          rintro e w5 ⟨rfl, hb5⟩
          have HB5 := Lib.hid (HB4.out.trans (hb5.mono HB4.out.size))
          have HRX5 := Lib.hid ((HRX4.out.below hb5).wider hb5.size)
          have HRD5 := Lib.hid ((HRD4.out.below hb5).wider hb5.size)
          have HPL : Hid ((payL (shI l) p).length = k) := Lib.hid (by rw [payL_lenP]; exact HLI.out)
          clear hb5 HSM HRX4 HRD4
          go_wp2_with fail
          go_loopg [20] k (fun gh vi wx => ∃ j : Nat, gh = k - j ∧ j ≤ k ∧ vi = .int .i64 j ∧ Below w5.heap.size w5 wx)
          case atStart => exact ⟨0, rfl, by omega, rfl, Below.refl _ _⟩
          case round =>
            obtain ⟨j, hgj, hj, rfl, hbj⟩ := hrel
            have HG := Lib.hid hgj; have HBJ := Lib.hid hbj
            clear hgj hbj
            by_cases hlt : j < k
            · have h1 : j < (payL (shI l) p).length := by have := HPL.out; omega
              have h2 : j < l.length := by have := HL.out; omega
              have h3 : j < (shI l).length := by have := HLI.out; omega
              obtain ⟨bx, ox, hX, hbx, y0⟩ := (HRX5.out.below HBJ.out).numW h1
              subst hX
              obtain ⟨bl, ol, hA, hbl, x0⟩ := (HRD5.out.below HBJ.out).numW h2
              simp only [Option.some.injEq, Addr.mk.injEq] at hA
              obtain ⟨rfl, rfl, -⟩ := hA
              rw [Nat.zero_add] at x0
              obtain ⟨v1, v2⟩ := pay_bdP HPAY.out.1 j h3
              rw [shI_at _ _ h2] at v2
              simp only at v2
              generalize (payL (shI l) p)[j] = y at *
              generalize l[j] = x at *
              have i1 : (0 : Int) ≤ (j : Int) := by omega
              have i2 : (j : Int) < (k : Int) := by omega
              have d1 : decide (x < y) = false := decide_eq_false (by omega)
              have d2 : decide (y < 0) = false := decide_eq_false (by omega)
              go_wp2_with fail
              go_quiet (fail)
              clear d1 d2
              go_wp2_with fail
              go_roundg (k - (j + 1))
              case measure => have := HG.out; omega
              case rel => exact ⟨j + 1, rfl, by omega, by go_num, below_drewN HBJ.out _⟩
            · have s1 : IntKind.i64.wrap (p - min a p) = p - min a p := IntWalk.i64_in _ (by omega)
              have q1 : (min a p == min a p) = true := by simp
              have q2 : (p - min a p == p - min a p) = true := by simp
              go_wp2_with fail
              go_ret
              exact ⟨ret_bool (by simp), HB5.out.trans (HBJ.out.mono HB5.out.size)⟩
  · rcases (show a < 0 ∨ (0 ≤ a ∧ 1125899906842624 < a) ∨ ((0 ≤ a ∧ a ≤ 1125899906842624) ∧ p < 0) ∨ ((0 ≤ a ∧ a ≤ 1125899906842624) ∧ 0 ≤ p ∧ 1125899906842624 < p) ∨ ((0 ≤ a ∧ a ≤ 1125899906842624) ∧ (0 ≤ p ∧ p ≤ 1125899906842624) ∧ 60 < n) by omega) with h | ⟨h, h2⟩ | ⟨⟨h, h2⟩, h3⟩ | ⟨⟨h, h2⟩, h3, h4⟩ | ⟨⟨h, h2⟩, ⟨h3, h4⟩, h5⟩
    · have d1 : decide (a < 0) = true := decide_eq_true h
      go_wp2_with fail
      go_ret
      exact ⟨rfl, HW1.out⟩
    · have d1 : decide (a < 0) = false := decide_eq_false (by omega)
      have d2 : decide (1125899906842624 < a) = true := decide_eq_true h2
      go_wp2_with fail
      go_ret
      exact ⟨rfl, HW1.out⟩
    · have d1 : decide (a < 0) = false := decide_eq_false (by omega)
      have d2 : decide (1125899906842624 < a) = false := decide_eq_false (by omega)
      have d3 : decide (p < 0) = true := decide_eq_true h3
      go_wp2_with fail
      go_ret
      exact ⟨rfl, HW1.out⟩
    · have d1 : decide (a < 0) = false := decide_eq_false (by omega)
      have d2 : decide (1125899906842624 < a) = false := decide_eq_false (by omega)
      have d3 : decide (p < 0) = false := decide_eq_false (by omega)
      have d4 : decide (1125899906842624 < p) = true := decide_eq_true h4
      go_wp2_with fail
      go_ret
      exact ⟨rfl, HW1.out⟩
    · have d1 : decide (a < 0) = false := decide_eq_false (by omega)
      have d2 : decide (1125899906842624 < a) = false := decide_eq_false (by omega)
      have d3 : decide (p < 0) = false := decide_eq_false (by omega)
      have d4 : decide (1125899906842624 < p) = false := decide_eq_false (by omega)
      have d5 : decide (60 < (n : Int)) = true := decide_eq_true (by omega)
      go_wp2_with fail
      go_ret
      exact ⟨rfl, HW1.out⟩
end Go.Proofs.Ytcoeooakimbkbaa
