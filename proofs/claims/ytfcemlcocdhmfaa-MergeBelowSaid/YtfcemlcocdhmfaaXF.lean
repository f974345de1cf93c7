/- A heap of runs in memory: up and down. -/
import Derived.Test.YtfcemlcocdhmfaaXE
import Derived.IntWalk
/- A heap of runs in memory: its state; up. -/
namespace Go.Proofs.Ytfcemlcocdhmfaa
open Go.RowKit Go
set_option linter.unusedVariables false
set_option linter.unusedSimpArgs false

def rn0 : Rn := ⟨.slice none 0 0, [], 0⟩
def fn (hs : List Rn) : Nat → Rn := fun k => (hs[k]?).getD rn0
theorem fn_at {hs : List Rn} {k : Nat} (h : k < hs.length) : fn hs k = hs[k] := by simp [fn, h]
theorem fn_swap {hs : List Rn} {i j : Nat} (hi : i < hs.length) (hj : j < hs.length) (hij : i ≠ j) : fn (swapL hs i j hs[i] hs[j]) = swp (fn hs) i j := by
  funext k
  unfold fn swapL swp
  by_cases h1 : k = i
  · subst h1; simp [List.getElem?_set, hi, hj, Ne.symm hij, hij]
  · by_cases h2 : k = j
    · subst h2; simp [List.getElem?_set, hi, hj, hij, h1]
    · simp [List.getElem?_set, h1, h2, Ne.symm h1, Ne.symm h2]
theorem swap_perm {hs : List Rn} {i j : Nat} (hi : i < hs.length) (hj : j < hs.length) : (swapL hs i j hs[i] hs[j]).Perm hs := List.set_set_perm hi hj
theorem swap_app {hs tl : List Rn} {i j : Nat} (hi : i < hs.length) (hj : j < hs.length) (a b : Rn) : swapL (hs ++ tl) i j a b = swapL hs i j a b ++ tl := by
  unfold swapL
  rw [List.set_append_left _ _ hi, List.set_append_left _ _ (by simpa using hj)]
/-- What lies in memory as a heap: the header's cell, the block, the runs. -/
structure HS (w : World) (B gh g c cap : Nat) (hs tl : List Rn) : Prop where
  hb : w.heap[gh]? = some (.cells #[.slice (some ⟨g, 0, none⟩) (hs.length + tl.length) cap] 44 (0, 0))
  at_ : HAt w g c (hs ++ tl)
  ne : gh ≠ g
  gB : B ≤ g
  hB : B ≤ gh
  rn : ∀ r ∈ hs, RnB w B r
  nm : hs.length + tl.length ≤ 1000000
theorem HS.lt {w : World} {B gh g c cap : Nat} {hs tl : List Rn} (h : HS w B gh g c cap hs tl) : g < w.heap.size := h.at_.lt
theorem HS.hd {w : World} {B gh g c cap : Nat} {hs tl : List Rn} (h : HS w B gh g c cap hs tl) : w.cell? ⟨gh, 0, none⟩ = some (.slice (some ⟨g, 0, none⟩) (hs.length + tl.length) cap) := (blk_cell h.hb 0).trans rfl
theorem HS.hlt {w : World} {B gh g c cap : Nat} {hs tl : List Rn} (h : HS w B gh g c cap hs tl) : gh < w.heap.size := blk_lt h.hb
theorem HS.below {w w' : World} {B gh g c cap : Nat} {hs tl : List Rn} (h : HS w B gh g c cap hs tl) (hb : Below w.heap.size w w') : HS w' B gh g c cap hs tl :=
  ⟨blk_below h.hb hb h.hlt, h.at_.below hb, h.ne, h.gB, h.hB, fun r hr => (h.rn r hr).keep fun p hp => hb.cell (by have := h.lt; have := h.gB; omega), h.nm⟩
theorem HS.grown {w w' : World} {B gh g c cap : Nat} {hs tl hs' : List Rn} (h : HS w B gh g c cap hs tl) (hg : w.grownBy w' (some g)) (ha : HAt w' g c (hs' ++ tl)) (hp : hs'.Perm hs) : HS w' B gh g c cap hs' tl :=
  ⟨by rw [hp.length_eq]; exact (hg.block gh h.hlt (by intro e; injection e with e; exact h.ne e)).trans h.hb, ha, h.ne, h.gB, h.hB,
    fun r hr => (h.rn r (hp.mem_iff.1 hr)).keep (fun p hp => grown_cell hg h.gB (by have := h.lt; have := h.gB; omega) p hp), by rw [hp.length_eq]; exact h.nm⟩
theorem grown_trans {a b c : World} {g : Nat} (h : a.grownBy b (some g)) (k : b.grownBy c (some g)) : a.grownBy c (some g) :=
  ⟨k.os.trans h.os, k.tape.trans h.tape, k.output.trans h.output, Nat.le_trans h.size k.size, fun i hi hn => (k.block i (Nat.lt_of_lt_of_le hi h.size) hn).trans (h.block i hi hn)⟩
theorem grown_below {a b c : World} {g : Nat} (h : a.grownBy b (some g)) (k : Below b.heap.size b c) : a.grownBy c (some g) :=
  ⟨k.os.trans h.os, k.tape.trans h.tape, k.output.trans h.output, Nat.le_trans h.size k.size, fun i hi hn => (k.block i (Nat.lt_of_lt_of_le hi h.size)).trans (h.block i hi hn)⟩
instance (a b : Rn) : Decidable (LessR a b) := inferInstanceAs (Decidable (lessI a b < 0))
/-- Less at a heap's places. -/
theorem HS.less {w : World} {B gh g c cap : Nat} {hs tl : List Rn} (h : HS w B gh g c cap hs tl) {i j : Nat} (hi : i < hs.length) (hj : j < hs.length) :
    Calls Try.prog 65 #[.slice (some ⟨g, 0, none⟩) (hs.length + tl.length) cap, .int .i64 i, .int .i64 j] w fun e w' => e = .returned (.bool (decide (LessR (fn hs i) (fn hs j)))) ∧ Below w.heap.size w w' := by
  have hB : B ≤ w.heap.size := by have := h.lt; have := h.gB; omega
  have ci := h.at_.cell (k := i) (by simp; omega)
  have cj := h.at_.cell (k := j) (by simp; omega)
  rw [List.getElem_append_left hi] at ci; rw [List.getElem_append_left hj] at cj
  rw [fn_at hi, fn_at hj]
  exact less_any g _ cap i j hs[i] hs[j] w (by omega) (by omega) ((h.rn _ (List.getElem_mem hi)).at_ hB) ((h.rn _ (List.getElem_mem hj)).at_ hB) ci.1 ci.2 cj.1 cj.2 h.nm
/-- Swap at a heap's places. -/
theorem HS.swap {w : World} {B gh g c cap : Nat} {hs tl : List Rn} (h : HS w B gh g c cap hs tl) {i j : Nat} (hi : i < hs.length) (hj : j < hs.length) (hij : i ≠ j) :
    Calls Try.prog 68 #[.slice (some ⟨g, 0, none⟩) (hs.length + tl.length) cap, .int .i64 i, .int .i64 j] w fun e w' => (∃ x, e = .returned x) ∧ (∃ hs', hs'.Perm hs ∧ fn hs' = swp (fn hs) i j ∧ HS w' B gh g c cap hs' tl) ∧ w.grownBy w' (some g) := by
  refine (swap_any g _ cap c i j (hs ++ tl) hs[i] hs[j] w h.at_ (by simp; omega) (by simp; omega) (by omega) (by omega) hij (List.getElem_append_left hi) (List.getElem_append_left hj) (h.rn _ (List.getElem_mem hi)).form (h.rn _ (List.getElem_mem hj)).form h.nm).mono ?_
  rintro e w' ⟨he, ha, hg⟩
  rw [swap_app hi hj] at ha
  exact ⟨he, ⟨_, swap_perm hi hj, fn_swap hi hj hij, h.grown hg ha (swap_perm hi hj)⟩, hg⟩
set_option maxHeartbeats 1600000 in
theorem up_any (B gh g c cap j : Nat) (hs : List Rn) (w : World) (h : HS w B gh g c cap hs []) (hj : j < hs.length) (hu : HpU (L := LessR) (fn hs) hs.length j) :
    Calls Try.prog 39 #[.iface 42 (.pointer (some ⟨gh, 0, none⟩)), .int .i64 j] w fun e w' => (∃ x, e = .returned x) ∧ (∃ hs', hs'.Perm hs ∧ Hp LessR (fn hs') hs.length ∧ HS w' B gh g c cap hs' []) ∧ w.grownBy w' (some g) := by
  have H0 := Lib.hid h; have HU0 := Lib.hid hu; have HJ0 := Lib.hid hj
  have hN := h.nm
  obtain ⟨N, hNN⟩ : ∃ N, hs.length = N := ⟨_, rfl⟩
  have HN := Lib.hid hNN
  rw [hNN] at HU0 HJ0 hN ⊢
  clear h hu hj hNN
  go_enter Try.func39, Try.ntmps39
  go_wp2_with fail
  go_loopg [1] j (fun q vj wr => ∃ (k : Nat) (ks : List Rn), q = k ∧ vj = .int .i64 k ∧ k < N ∧ ks.Perm hs ∧ HpU (L := LessR) (fn ks) N k ∧ HS wr B gh g c cap ks [] ∧ w.grownBy wr (some g))
  case atStart => exact ⟨j, hs, rfl, rfl, HJ0.out, List.Perm.refl _, HU0.out, H0.out, World.grownBy.refl _ _⟩
  case round =>
    obtain ⟨k, ks, hq, rfl, hk, hp, hu, hst, hgr⟩ := hrel
    have HQ := Lib.hid hq; have HP := Lib.hid hp; have HU := Lib.hid hu; have HS1 := Lib.hid hst; have HG := Lib.hid hgr
    have hd := hst.hd
    have HL : Hid (ks.length = N) := hp.length_eq.trans HN.out
    clear hq hp hu hst hgr
    have ml := method_less gh 194 hd
    have ms := fun wx h => method_swap (w := wx) (A := some ⟨g, 0, none⟩) (n := ks.length + ([] : List Rn).length) (c := cap) gh 194 h
    clear hd
    by_cases h0 : k = 0
    · subst h0
      go_wp2_with fail
      go_end0
      exact ⟨⟨_, rfl⟩, ⟨ks, HP.out, HU.out.zero, HS1.out⟩, HG.out⟩
    · obtain ⟨P, hP⟩ : ∃ P, (k - 1) / 2 = P := ⟨_, rfl⟩
      have hPi : ((k : Int) - 1) / 2 = (P : Int) := by omega
      have hPk : ¬ (P : Int) = (k : Int) := by omega
      have hPn : P < N := by omega
      have HPP := Lib.hid hP
      have hlc := HS1.out.less (i := k) (j := P) (by have := HL.out; omega) (by have := HL.out; omega)
      clear hP
      by_cases hl : LessR (fn ks k) (fn ks P)
      · rw [decide_eq_true hl] at hlc
        have HLC := Lib.hid hlc; have HLT := Lib.hid hl
        clear hl hlc
        go_wp2_with fail
        refine HLC.out.mono ?_; rintro e w1 ⟨rfl, hw1⟩
        have HS2 := Lib.hid (HS1.out.below hw1)
        have HG2 := Lib.hid (grown_below HG.out hw1)
        have ms1 := ms w1 HS2.out.hd
        clear ms ml hw1
        go_wp2_with fail
        refine (HS2.out.swap (i := P) (j := k) (by have := HL.out; omega) (by have := HL.out; omega) (by omega)).mono ?_
        rintro e w2 ⟨⟨x, rfl⟩, ⟨ks', hp', hf', hs'⟩, hg'⟩
        have HS3 := Lib.hid hs'; have HP3 := Lib.hid (hp'.trans HP.out); have HG3 := Lib.hid (grown_trans HG2.out hg')
        have hu' : HpU (L := LessR) (fn ks') N P := by
          rw [hf']
          have := HU.out.step loLess (by omega) hk (by rw [HPP.out]; exact HLT.out)
          rwa [HPP.out] at this
        have HU3 := Lib.hid hu'
        clear hs' hp' hg' hf' hu' ms1
        go_wp2_with fail
        go_roundg P
        case measure => have := HQ.out; have := HPP.out; omega
        case rel => exact ⟨P, ks', rfl, rfl, hPn, HP3.out, HU3.out, HS3.out, HG3.out⟩
      · rw [decide_eq_false hl] at hlc
        have HLC := Lib.hid hlc; have HLT := Lib.hid hl
        clear hl hlc
        go_wp2_with fail
        refine HLC.out.mono ?_; rintro e w1 ⟨rfl, hw1⟩
        have HS2 := Lib.hid (HS1.out.below hw1)
        have HG2 := Lib.hid (grown_below HG.out hw1)
        clear ms ml hw1
        go_wp2_with fail
        go_end0
        exact ⟨⟨_, rfl⟩, ⟨ks, HP.out, HU.out.stop (by rw [HPP.out]; exact HLT.out), HS2.out⟩, HG2.out⟩
end Go.Proofs.Ytfcemlcocdhmfaa
/- A heap of runs in memory: down. -/
namespace Go.Proofs.Ytfcemlcocdhmfaa
open Go.RowKit Go
set_option linter.unusedVariables false
set_option linter.unusedSimpArgs false

def IsB (e : Ending) : Prop := ∃ b, e = .returned (.bool b)
theorem Hp.toU {hs : List Rn} {n : Nat} (h : Hp LessR (fn hs) n) : HpU (L := LessR) (fn hs) n 0 := ⟨fun k h0 hk _ => h k h0 hk, fun k _ _ _ h0 => absurd h0 (Nat.lt_irrefl 0)⟩
set_option maxHeartbeats 3200000 in
theorem down_any (B gh g c cap : Nat) (hs tl : List Rn) (w : World) (h : HS w B gh g c cap hs tl) (hu : HpD (L := LessR) (fn hs) hs.length 0) :
    Calls Try.prog 44 #[.iface 42 (.pointer (some ⟨gh, 0, none⟩)), .int .i64 0, .int .i64 hs.length] w fun e w' => IsB e ∧ (∃ hs', hs'.Perm hs ∧ Hp LessR (fn hs') hs.length ∧ HS w' B gh g c cap hs' tl) ∧ w.grownBy w' (some g) := by
  have H0 := Lib.hid h; have HU0 := Lib.hid hu
  have hN := h.nm
  obtain ⟨N, hNN⟩ : ∃ N, hs.length = N := ⟨_, rfl⟩
  have HN := Lib.hid hNN
  rw [hNN] at HU0 hN ⊢
  clear h hu hNN
  go_enter Try.func44, Try.ntmps44
  go_wp2_with fail
  go_loopg [7] N (fun q vj wr => ∃ (k : Nat) (ks : List Rn), q = N - k ∧ vj = .int .i64 k ∧ (k = 0 ∨ k < N) ∧ ks.Perm hs ∧ HpD (L := LessR) (fn ks) N k ∧ HS wr B gh g c cap ks tl ∧ w.grownBy wr (some g))
  case atStart => exact ⟨0, hs, rfl, rfl, .inl rfl, List.Perm.refl _, HU0.out, H0.out, World.grownBy.refl _ _⟩
  case round =>
    obtain ⟨k, ks, hq, rfl, hk, hp, hu, hst, hgr⟩ := hrel
    have HQ := Lib.hid hq; have HP := Lib.hid hp; have HU := Lib.hid hu; have HS1 := Lib.hid hst; have HG := Lib.hid hgr
    have HL : Hid (ks.length = N) := hp.length_eq.trans HN.out
    have hkm : k ≤ 1000000 := by omega
    have HK := Lib.hid hk
    clear hq hp hu hst hgr hk
    by_cases h1 : N ≤ 2 * k + 1
    · have h1' : ¬ 2 * (k : Int) + 1 < (N : Int) := by omega
      have h1'' : (N : Int) ≤ 2 * (k : Int) + 1 := by omega
      go_wp2_with fail
      go_ret
      exact ⟨⟨_, rfl⟩, ⟨ks, HP.out, HU.out.leaf h1, HS1.out⟩, HG.out⟩
    · obtain ⟨P, hP⟩ : ∃ P, 2 * k + 1 = P := ⟨_, rfl⟩
      obtain ⟨Q, hQ⟩ : ∃ Q, 2 * k + 2 = Q := ⟨_, rfl⟩
      have hPi : 2 * (k : Int) + 1 = (P : Int) := by omega
      have hQi : (P : Int) + 1 = (Q : Int) := by omega
      have hPN : P < N := by omega
      have hkN : k < N := by omega
      have hPp : (P - 1) / 2 = k := by omega
      have hQp : (Q - 1) / 2 = k := by omega
      have hP0 : 0 < P := by omega
      have hQ0 : 0 < Q := by omega
      have HPE := Lib.hid hP; have HQE := Lib.hid hQ; have HPP := Lib.hid hPp; have HQP := Lib.hid hQp
      have g1 : ¬ (N : Int) ≤ (P : Int) := by omega
      have g2 : ¬ (P : Int) < 0 := by omega
      clear hP hQ hPp hQp h1
      by_cases h2 : Q < N
      · have hQN := h2
        have h2' : (Q : Int) < (N : Int) := by omega
        have hlq := HS1.out.less (i := Q) (j := P) (by have := HL.out; omega) (by have := HL.out; omega)
        by_cases hc : LessR (fn ks Q) (fn ks P)
        · rw [decide_eq_true hc] at hlq
          have HLQ := Lib.hid hlq
          have HMIN := Lib.hid (child_right (n := N) (i := k) (f := fn ks) (by rw [HPE.out, HQE.out]; exact hc) loLess)
          rw [HQE.out] at HMIN
          have ml := method_less gh 194 HS1.out.hd
          clear hlq hc
          go_wp2_with fail
          refine HLQ.out.mono ?_; rintro e w1 ⟨rfl, hw1⟩
          have HS2 := Lib.hid (HS1.out.below hw1)
          have HG2 := Lib.hid (grown_below HG.out hw1)
          clear ml hw1
          have hlc := HS2.out.less (i := Q) (j := k) (by have := HL.out; omega) (by have := HL.out; omega)
          by_cases hl : LessR (fn ks Q) (fn ks k)
          · rw [decide_eq_true hl] at hlc
            have HLC := Lib.hid hlc; have HLT := Lib.hid hl
            have ml2 := method_less gh 194 HS2.out.hd
            clear hl hlc
            go_wp2_with fail
            refine HLC.out.mono ?_; rintro e w2 ⟨rfl, hw2⟩
            have HS3 := Lib.hid (HS2.out.below hw2)
            have HG3 := Lib.hid (grown_below HG2.out hw2)
            have ms1 := method_swap gh 194 HS3.out.hd
            clear ml2 hw2
            go_wp2_with fail
            refine (HS3.out.swap (i := k) (j := Q) (by have := HL.out; omega) (by have := HL.out; omega) (by have := HPE.out; have := HQE.out; omega)).mono ?_
            rintro e w3 ⟨⟨x, rfl⟩, ⟨ks', hp', hf', hs'⟩, hg'⟩
            have HS4 := Lib.hid hs'; have HP4 := Lib.hid (hp'.trans HP.out); have HG4 := Lib.hid (grown_trans HG3.out hg')
            have hu' : HpD (L := LessR) (fn ks') N Q := by
              rw [hf']
              exact HU.out.step loLess hQ0 hQN HQP.out HMIN.out HLT.out
            have HU4 := Lib.hid hu'
            clear hs' hp' hg' hf' hu' ms1
            go_wp2_with fail
            go_roundg (N - Q)
            case measure => have := HQ.out; have := HPE.out; have := HQE.out; omega
            case rel => exact ⟨Q, ks', rfl, rfl, .inr hQN, HP4.out, HU4.out, HS4.out, HG4.out⟩
          · rw [decide_eq_false hl] at hlc
            have HLC := Lib.hid hlc; have HLT := Lib.hid hl
            have ml2 := method_less gh 194 HS2.out.hd
            clear hl hlc
            go_wp2_with fail
            refine HLC.out.mono ?_; rintro e w2 ⟨rfl, hw2⟩
            have HS3 := Lib.hid (HS2.out.below hw2)
            have HG3 := Lib.hid (grown_below HG2.out hw2)
            clear ml2 hw2
            go_wp2_with fail
            go_ret
            exact ⟨⟨_, rfl⟩, ⟨ks, HP.out, HU.out.stop loLess HMIN.out HLT.out, HS3.out⟩, HG3.out⟩
        · rw [decide_eq_false hc] at hlq
          have HLQ := Lib.hid hlq
          have HMIN := Lib.hid (child_left (n := N) (i := k) (f := fn ks) (.inr (by rw [HPE.out, HQE.out]; exact hc)) loLess)
          rw [HPE.out] at HMIN
          have ml := method_less gh 194 HS1.out.hd
          clear hlq hc
          go_wp2_with fail
          refine HLQ.out.mono ?_; rintro e w1 ⟨rfl, hw1⟩
          have HS2 := Lib.hid (HS1.out.below hw1)
          have HG2 := Lib.hid (grown_below HG.out hw1)
          clear ml hw1
          have hlc := HS2.out.less (i := P) (j := k) (by have := HL.out; omega) (by have := HL.out; omega)
          by_cases hl : LessR (fn ks P) (fn ks k)
          · rw [decide_eq_true hl] at hlc
            have HLC := Lib.hid hlc; have HLT := Lib.hid hl
            have ml2 := method_less gh 194 HS2.out.hd
            clear hl hlc
            go_wp2_with fail
            refine HLC.out.mono ?_; rintro e w2 ⟨rfl, hw2⟩
            have HS3 := Lib.hid (HS2.out.below hw2)
            have HG3 := Lib.hid (grown_below HG2.out hw2)
            have ms1 := method_swap gh 194 HS3.out.hd
            clear ml2 hw2
            go_wp2_with fail
            refine (HS3.out.swap (i := k) (j := P) (by have := HL.out; omega) (by have := HL.out; omega) (by have := HPE.out; have := HQE.out; omega)).mono ?_
            rintro e w3 ⟨⟨x, rfl⟩, ⟨ks', hp', hf', hs'⟩, hg'⟩
            have HS4 := Lib.hid hs'; have HP4 := Lib.hid (hp'.trans HP.out); have HG4 := Lib.hid (grown_trans HG3.out hg')
            have hu' : HpD (L := LessR) (fn ks') N P := by
              rw [hf']
              exact HU.out.step loLess hP0 hPN HPP.out HMIN.out HLT.out
            have HU4 := Lib.hid hu'
            clear hs' hp' hg' hf' hu' ms1
            go_wp2_with fail
            go_roundg (N - P)
            case measure => have := HQ.out; have := HPE.out; have := HQE.out; omega
            case rel => exact ⟨P, ks', rfl, rfl, .inr hPN, HP4.out, HU4.out, HS4.out, HG4.out⟩
          · rw [decide_eq_false hl] at hlc
            have HLC := Lib.hid hlc; have HLT := Lib.hid hl
            have ml2 := method_less gh 194 HS2.out.hd
            clear hl hlc
            go_wp2_with fail
            refine HLC.out.mono ?_; rintro e w2 ⟨rfl, hw2⟩
            have HS3 := Lib.hid (HS2.out.below hw2)
            have HG3 := Lib.hid (grown_below HG2.out hw2)
            clear ml2 hw2
            go_wp2_with fail
            go_ret
            exact ⟨⟨_, rfl⟩, ⟨ks, HP.out, HU.out.stop loLess HMIN.out HLT.out, HS3.out⟩, HG3.out⟩
      · have h2' : ¬ (Q : Int) < (N : Int) := by omega
        have HMIN := Lib.hid (child_left (n := N) (i := k) (f := fn ks) (.inl (by rw [HQE.out]; omega)) loLess)
        rw [HPE.out] at HMIN
        have hlc := HS1.out.less (i := P) (j := k) (by have := HL.out; omega) (by have := HL.out; omega)
        by_cases hl : LessR (fn ks P) (fn ks k)
        · rw [decide_eq_true hl] at hlc
          have HLC := Lib.hid hlc; have HLT := Lib.hid hl
          have ml2 := method_less gh 194 HS1.out.hd
          clear hl hlc
          go_wp2_with fail
          refine HLC.out.mono ?_; rintro e w2 ⟨rfl, hw2⟩
          have HS3 := Lib.hid (HS1.out.below hw2)
          have HG3 := Lib.hid (grown_below HG.out hw2)
          have ms1 := method_swap gh 194 HS3.out.hd
          clear ml2 hw2
          go_wp2_with fail
          refine (HS3.out.swap (i := k) (j := P) (by have := HL.out; omega) (by have := HL.out; omega) (by have := HPE.out; have := HQE.out; omega)).mono ?_
          rintro e w3 ⟨⟨x, rfl⟩, ⟨ks', hp', hf', hs'⟩, hg'⟩
          have HS4 := Lib.hid hs'; have HP4 := Lib.hid (hp'.trans HP.out); have HG4 := Lib.hid (grown_trans HG3.out hg')
          have hu' : HpD (L := LessR) (fn ks') N P := by
            rw [hf']
            exact HU.out.step loLess hP0 hPN HPP.out HMIN.out HLT.out
          have HU4 := Lib.hid hu'
          clear hs' hp' hg' hf' hu' ms1
          go_wp2_with fail
          go_roundg (N - P)
          case measure => have := HQ.out; have := HPE.out; have := HQE.out; omega
          case rel => exact ⟨P, ks', rfl, rfl, .inr hPN, HP4.out, HU4.out, HS4.out, HG4.out⟩
        · rw [decide_eq_false hl] at hlc
          have HLC := Lib.hid hlc; have HLT := Lib.hid hl
          have ml2 := method_less gh 194 HS1.out.hd
          clear hl hlc
          go_wp2_with fail
          refine HLC.out.mono ?_; rintro e w2 ⟨rfl, hw2⟩
          have HS3 := Lib.hid (HS1.out.below hw2)
          have HG3 := Lib.hid (grown_below HG.out hw2)
          clear ml2 hw2
          go_wp2_with fail
          go_ret
          exact ⟨⟨_, rfl⟩, ⟨ks, HP.out, HU.out.stop loLess HMIN.out HLT.out, HS3.out⟩, HG3.out⟩
end Go.Proofs.Ytfcemlcocdhmfaa
