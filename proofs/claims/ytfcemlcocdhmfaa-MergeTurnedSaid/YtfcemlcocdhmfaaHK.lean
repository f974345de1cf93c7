/- A heap of runs in memory: down. -/
import Derived.Test.YtfcemlcocdhmfaaHJ
namespace Go.Proofs.Ytfcemlcocdhmfaa
open Go.RowKit Go
set_option linter.unusedVariables false
set_option linter.unusedSimpArgs false

def IsB (e : Ending) : Prop := ∃ b, e = .returned (.bool b)
theorem Hp.toU {hs : List Rn} {n : Nat} (h : Hp LessR (fn hs) n) : HpU (L := LessR) (fn hs) n 0 := ⟨fun k h0 hk _ => h k h0 hk, fun k _ _ _ h0 => absurd h0 (Nat.lt_irrefl 0)⟩
set_option maxHeartbeats 3200000 in
theorem down_any (B gh g c cap : Nat) (hs tl : List Rn) (w : World) (h : HS w B gh g c cap hs tl) (hu : HpD (L := LessR) (fn hs) hs.length 0) :
    Calls Try.prog 44 #[.iface 42 (.pointer (some ⟨gh, 0, none⟩)), .int .i64 0, .int .i64 hs.length] w fun e w' => IsB e ∧ (∃ hs', hs'.Perm hs ∧ Hp LessR (fn hs') hs.length ∧ HS w' B gh g c cap hs' tl) ∧ w.grownBy w' (some g) := by
  have H0 := Lib.hid h; have HU0 := Lib.hid hu
  have hN := h.nm
  obtain ⟨N, hNN⟩ : ∃ N, hs.length = N := ⟨_, rfl⟩
  have HN := Lib.hid hNN
  rw [hNN] at HU0 hN ⊢
  clear h hu hNN
  go_enter Try.func44, Try.ntmps44
  go_wp2_with fail
  go_loopg [7] N (fun q vj wr => ∃ (k : Nat) (ks : List Rn), q = N - k ∧ vj = .int .i64 k ∧ (k = 0 ∨ k < N) ∧ ks.Perm hs ∧ HpD (L := LessR) (fn ks) N k ∧ HS wr B gh g c cap ks tl ∧ w.grownBy wr (some g))
  case atStart => exact ⟨0, hs, rfl, rfl, .inl rfl, List.Perm.refl _, HU0.out, H0.out, World.grownBy.refl _ _⟩
  case round =>
    obtain ⟨k, ks, hq, rfl, hk, hp, hu, hst, hgr⟩ := hrel
    have HQ := Lib.hid hq; have HP := Lib.hid hp; have HU := Lib.hid hu; have HS1 := Lib.hid hst; have HG := Lib.hid hgr
    have HL : Hid (ks.length = N) := hp.length_eq.trans HN.out
    have hkm : k ≤ 1000000 := by omega
    have HK := Lib.hid hk
    clear hq hp hu hst hgr hk
    by_cases h1 : N ≤ 2 * k + 1
    · have h1' : ¬ 2 * (k : Int) + 1 < (N : Int) := by omega
      have h1'' : (N : Int) ≤ 2 * (k : Int) + 1 := by omega
      go_wp2_with fail
      go_ret
      exact ⟨⟨_, rfl⟩, ⟨ks, HP.out, HU.out.leaf h1, HS1.out⟩, HG.out⟩
    · obtain ⟨P, hP⟩ : ∃ P, 2 * k + 1 = P := ⟨_, rfl⟩
      obtain ⟨Q, hQ⟩ : ∃ Q, 2 * k + 2 = Q := ⟨_, rfl⟩
      have hPi : 2 * (k : Int) + 1 = (P : Int) := by omega
      have hQi : (P : Int) + 1 = (Q : Int) := by omega
      have hPN : P < N := by omega
      have hkN : k < N := by omega
      have hPp : (P - 1) / 2 = k := by omega
      have hQp : (Q - 1) / 2 = k := by omega
      have hP0 : 0 < P := by omega
      have hQ0 : 0 < Q := by omega
      have HPE := Lib.hid hP; have HQE := Lib.hid hQ; have HPP := Lib.hid hPp; have HQP := Lib.hid hQp
      have g1 : ¬ (N : Int) ≤ (P : Int) := by omega
      have g2 : ¬ (P : Int) < 0 := by omega
      clear hP hQ hPp hQp h1
      by_cases h2 : Q < N
      · have hQN := h2
        have h2' : (Q : Int) < (N : Int) := by omega
        have hlq := HS1.out.less (i := Q) (j := P) (by have := HL.out; omega) (by have := HL.out; omega)
        by_cases hc : LessR (fn ks Q) (fn ks P)
        · rw [decide_eq_true hc] at hlq
          have HLQ := Lib.hid hlq
          have HMIN := Lib.hid (child_right (n := N) (i := k) (f := fn ks) (by rw [HPE.out, HQE.out]; exact hc) loLess)
          rw [HQE.out] at HMIN
          have ml := method_less gh 194 HS1.out.hd
          clear hlq hc
          go_wp2_with fail
          refine HLQ.out.mono ?_; rintro e w1 ⟨rfl, hw1⟩
          have HS2 := Lib.hid (HS1.out.below hw1)
          have HG2 := Lib.hid (grown_below HG.out hw1)
          clear ml hw1
          have hlc := HS2.out.less (i := Q) (j := k) (by have := HL.out; omega) (by have := HL.out; omega)
          by_cases hl : LessR (fn ks Q) (fn ks k)
          · rw [decide_eq_true hl] at hlc
            have HLC := Lib.hid hlc; have HLT := Lib.hid hl
            have ml2 := method_less gh 194 HS2.out.hd
            clear hl hlc
            go_wp2_with fail
            refine HLC.out.mono ?_; rintro e w2 ⟨rfl, hw2⟩
            have HS3 := Lib.hid (HS2.out.below hw2)
            have HG3 := Lib.hid (grown_below HG2.out hw2)
            have ms1 := method_swap gh 194 HS3.out.hd
            clear ml2 hw2
            go_wp2_with fail
            refine (HS3.out.swap (i := k) (j := Q) (by have := HL.out; omega) (by have := HL.out; omega) (by have := HPE.out; have := HQE.out; omega)).mono ?_
            rintro e w3 ⟨⟨x, rfl⟩, ⟨ks', hp', hf', hs'⟩, hg'⟩
            have HS4 := Lib.hid hs'; have HP4 := Lib.hid (hp'.trans HP.out); have HG4 := Lib.hid (grown_trans HG3.out hg')
            have hu' : HpD (L := LessR) (fn ks') N Q := by
              rw [hf']
              exact HU.out.step loLess hQ0 hQN HQP.out HMIN.out HLT.out
            have HU4 := Lib.hid hu'
            clear hs' hp' hg' hf' hu' ms1
            go_wp2_with fail
            go_roundg (N - Q)
            case measure => have := HQ.out; have := HPE.out; have := HQE.out; omega
            case rel => exact ⟨Q, ks', rfl, rfl, .inr hQN, HP4.out, HU4.out, HS4.out, HG4.out⟩
          · rw [decide_eq_false hl] at hlc
            have HLC := Lib.hid hlc; have HLT := Lib.hid hl
            have ml2 := method_less gh 194 HS2.out.hd
            clear hl hlc
            go_wp2_with fail
            refine HLC.out.mono ?_; rintro e w2 ⟨rfl, hw2⟩
            have HS3 := Lib.hid (HS2.out.below hw2)
            have HG3 := Lib.hid (grown_below HG2.out hw2)
            clear ml2 hw2
            go_wp2_with fail
            go_ret
            exact ⟨⟨_, rfl⟩, ⟨ks, HP.out, HU.out.stop loLess HMIN.out HLT.out, HS3.out⟩, HG3.out⟩
        · rw [decide_eq_false hc] at hlq
          have HLQ := Lib.hid hlq
          have HMIN := Lib.hid (child_left (n := N) (i := k) (f := fn ks) (.inr (by rw [HPE.out, HQE.out]; exact hc)) loLess)
          rw [HPE.out] at HMIN
          have ml := method_less gh 194 HS1.out.hd
          clear hlq hc
          go_wp2_with fail
          refine HLQ.out.mono ?_; rintro e w1 ⟨rfl, hw1⟩
          have HS2 := Lib.hid (HS1.out.below hw1)
          have HG2 := Lib.hid (grown_below HG.out hw1)
          clear ml hw1
          have hlc := HS2.out.less (i := P) (j := k) (by have := HL.out; omega) (by have := HL.out; omega)
          by_cases hl : LessR (fn ks P) (fn ks k)
          · rw [decide_eq_true hl] at hlc
            have HLC := Lib.hid hlc; have HLT := Lib.hid hl
            have ml2 := method_less gh 194 HS2.out.hd
            clear hl hlc
            go_wp2_with fail
            refine HLC.out.mono ?_; rintro e w2 ⟨rfl, hw2⟩
            have HS3 := Lib.hid (HS2.out.below hw2)
            have HG3 := Lib.hid (grown_below HG2.out hw2)
            have ms1 := method_swap gh 194 HS3.out.hd
            clear ml2 hw2
            go_wp2_with fail
            refine (HS3.out.swap (i := k) (j := P) (by have := HL.out; omega) (by have := HL.out; omega) (by have := HPE.out; have := HQE.out; omega)).mono ?_
            rintro e w3 ⟨⟨x, rfl⟩, ⟨ks', hp', hf', hs'⟩, hg'⟩
            have HS4 := Lib.hid hs'; have HP4 := Lib.hid (hp'.trans HP.out); have HG4 := Lib.hid (grown_trans HG3.out hg')
            have hu' : HpD (L := LessR) (fn ks') N P := by
              rw [hf']
              exact HU.out.step loLess hP0 hPN HPP.out HMIN.out HLT.out
            have HU4 := Lib.hid hu'
            clear hs' hp' hg' hf' hu' ms1
            go_wp2_with fail
            go_roundg (N - P)
            case measure => have := HQ.out; have := HPE.out; have := HQE.out; omega
            case rel => exact ⟨P, ks', rfl, rfl, .inr hPN, HP4.out, HU4.out, HS4.out, HG4.out⟩
          · rw [decide_eq_false hl] at hlc
            have HLC := Lib.hid hlc; have HLT := Lib.hid hl
            have ml2 := method_less gh 194 HS2.out.hd
            clear hl hlc
            go_wp2_with fail
            refine HLC.out.mono ?_; rintro e w2 ⟨rfl, hw2⟩
            have HS3 := Lib.hid (HS2.out.below hw2)
            have HG3 := Lib.hid (grown_below HG2.out hw2)
            clear ml2 hw2
            go_wp2_with fail
            go_ret
            exact ⟨⟨_, rfl⟩, ⟨ks, HP.out, HU.out.stop loLess HMIN.out HLT.out, HS3.out⟩, HG3.out⟩
      · have h2' : ¬ (Q : Int) < (N : Int) := by omega
        have HMIN := Lib.hid (child_left (n := N) (i := k) (f := fn ks) (.inl (by rw [HQE.out]; omega)) loLess)
        rw [HPE.out] at HMIN
        have hlc := HS1.out.less (i := P) (j := k) (by have := HL.out; omega) (by have := HL.out; omega)
        by_cases hl : LessR (fn ks P) (fn ks k)
        · rw [decide_eq_true hl] at hlc
          have HLC := Lib.hid hlc; have HLT := Lib.hid hl
          have ml2 := method_less gh 194 HS1.out.hd
          clear hl hlc
          go_wp2_with fail
          refine HLC.out.mono ?_; rintro e w2 ⟨rfl, hw2⟩
          have HS3 := Lib.hid (HS1.out.below hw2)
          have HG3 := Lib.hid (grown_below HG.out hw2)
          have ms1 := method_swap gh 194 HS3.out.hd
          clear ml2 hw2
          go_wp2_with fail
          refine (HS3.out.swap (i := k) (j := P) (by have := HL.out; omega) (by have := HL.out; omega) (by have := HPE.out; have := HQE.out; omega)).mono ?_
          rintro e w3 ⟨⟨x, rfl⟩, ⟨ks', hp', hf', hs'⟩, hg'⟩
          have HS4 := Lib.hid hs'; have HP4 := Lib.hid (hp'.trans HP.out); have HG4 := Lib.hid (grown_trans HG3.out hg')
          have hu' : HpD (L := LessR) (fn ks') N P := by
            rw [hf']
            exact HU.out.step loLess hP0 hPN HPP.out HMIN.out HLT.out
          have HU4 := Lib.hid hu'
          clear hs' hp' hg' hf' hu' ms1
          go_wp2_with fail
          go_roundg (N - P)
          case measure => have := HQ.out; have := HPE.out; have := HQE.out; omega
          case rel => exact ⟨P, ks', rfl, rfl, .inr hPN, HP4.out, HU4.out, HS4.out, HG4.out⟩
        · rw [decide_eq_false hl] at hlc
          have HLC := Lib.hid hlc; have HLT := Lib.hid hl
          have ml2 := method_less gh 194 HS1.out.hd
          clear hl hlc
          go_wp2_with fail
          refine HLC.out.mono ?_; rintro e w2 ⟨rfl, hw2⟩
          have HS3 := Lib.hid (HS1.out.below hw2)
          have HG3 := Lib.hid (grown_below HG.out hw2)
          clear ml2 hw2
          go_wp2_with fail
          go_ret
          exact ⟨⟨_, rfl⟩, ⟨ks, HP.out, HU.out.stop loLess HMIN.out HLT.out, HS3.out⟩, HG3.out⟩
end Go.Proofs.Ytfcemlcocdhmfaa
