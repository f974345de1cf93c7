/- A heap of runs in memory: container/heap's Fix and Pop. -/
import Derived.Test.YtfcemlcocdhmfaaHM
namespace Go.Proofs.Ytfcemlcocdhmfaa
open Go.RowKit Go
set_option linter.unusedVariables false
set_option linter.unusedSimpArgs false

set_option maxHeartbeats 1600000 in
theorem hfix_any (B gh g c : Nat) (hs : List Rn) (w : World) (h : HS w B gh g c c hs []) (hp : HpD (L := LessR) (fn hs) hs.length 0) (h0 : 0 < hs.length) :
    Calls Try.prog 26 #[.iface 42 (.pointer (some ⟨gh, 0, none⟩)), .int .i64 0] w fun e w' => (∃ x, e = .returned x) ∧ (∃ ks, ks.Perm hs ∧ Hp LessR (fn ks) hs.length ∧ HS w' B gh g c c ks []) ∧ w.grownBy w' (some g) := by
  have ml := method_len gh 194 h.hd
  have H := Lib.hid h; have HP := Lib.hid hp
  simp only [List.length_nil, Nat.add_zero] at ml
  clear h hp
  go_enter Try.func26, Try.ntmps26
  go_wp2_with fail
  refine (len_any _ _ _ _ rfl _).mono ?_; rintro e w' ⟨rfl, rfl⟩
  clear ml
  go_wp2_with fail
  refine (down_any B gh g c c hs [] w H.out HP.out).mono ?_
  rintro e w1 ⟨⟨b, rfl⟩, ⟨ks, k1, k2, k3⟩, k4⟩
  have K1 := Lib.hid k1; have K2 := Lib.hid k2; have K3 := Lib.hid k3; have K4 := Lib.hid k4
  clear k1 k2 k3 k4
  cases b with
  | true =>
    go_wp2_with fail
    go_end0
    exact ⟨⟨_, rfl⟩, ⟨ks, K1.out, K2.out, K3.out⟩, K4.out⟩
  | false =>
    go_wp2_with fail
    refine (up_any B gh g c c 0 ks w1 K3.out (by rw [K1.out.length_eq]; exact h0) (by rw [K1.out.length_eq]; exact Hp.toU K2.out)).mono ?_
    rintro e w2 ⟨⟨x, rfl⟩, ⟨ls, k1, k2, k3⟩, k4⟩
    have L1 : Hid (ls.Perm hs) := Lib.hid (k1.trans K1.out)
    have L2 : Hid (Hp LessR (fn ls) hs.length) := Lib.hid (by rw [← K1.out.length_eq]; exact k2)
    have L3 := Lib.hid k3; have L4 := Lib.hid (grown_trans K4.out k4)
    clear k1 k2 k3 k4
    go_wp2_with fail
    go_end0
    exact ⟨⟨_, rfl⟩, ⟨ls, L1.out, L2.out, L3.out⟩, L4.out⟩
theorem fn_zero {r : Rn} {rs : List Rn} : fn (r :: rs) 0 = r := rfl
/-- The last one is set at the first place, and goes. -/
theorem HS.part {w : World} {B gh g c cap : Nat} {ks tl : List Rn} (h : HS w B gh g c cap (ks ++ tl) []) : HS w B gh g c cap ks tl :=
  ⟨by have := h.hb; simpa using this, by simpa using h.at_, h.ne, h.gB, h.hB, fun r hr => h.rn r (List.mem_append_left _ hr), by have := h.nm; simpa using this⟩
theorem swap_ends {α : Type} (r l : Rn) (rs : List Rn) : swapL (r :: (rs ++ [l])) 0 (rs.length + 1) r l = (l :: rs) ++ [r] := by
  unfold swapL
  rw [List.set_cons_zero, List.set_cons_succ, List.set_append_right _ _ (Nat.le_refl _), Nat.sub_self]; rfl
set_option maxHeartbeats 1600000 in
theorem hpop_any (B gh g c : Nat) (r0 r : Rn) (rs : List Rn) (w : World) (hb : w.heap[gh]? = some (.cells #[.slice (some ⟨g, 0, none⟩) (rs.length + 1) c] 44 (0, 0))) (hat : HAt w g c (r :: rs)) (hne : gh ≠ g) (hgB : B ≤ g) (hhB : B ≤ gh)
    (hrn : ∀ q ∈ rs, RnB w B q) (fr : ∃ A k c, r.lv = .slice A k c) (hnm : rs.length + 1 ≤ 1000000) (hp : Hp LessR (fn (r0 :: rs)) (rs.length + 1)) :
    Calls Try.prog 25 #[.iface 42 (.pointer (some ⟨gh, 0, none⟩))] w fun e w' => (∃ x, e = .returned x) ∧ (∃ ks, ks.Perm rs ∧ Hp LessR (fn ks) rs.length ∧ HS w' B gh g c c ks []) ∧ Gr2 w w' gh g := by
  have hd : w.cell? ⟨gh, 0, none⟩ = some (.slice (some ⟨g, 0, none⟩) (rs.length + 1) c) := (blk_cell hb 0).trans rfl
  have ml := method_len gh 194 hd
  have ms := method_swap gh 194 hd
  have hcap : rs.length + 1 ≤ c := by have := hat.le; simpa using this
  have hgr : ∀ w' ks, w.grownBy w' (some g) → HAt w' g c (ks ++ [r]) → ks.Perm rs → HS w' B gh g c c ks [r] := fun w' ks hg ha hpm =>
    ⟨by rw [show ks.length + [r].length = rs.length + 1 by rw [hpm.length_eq]; rfl]; exact (hg.block gh (blk_lt hb) (by intro e; injection e with e; exact hne e)).trans hb, ha, hne, hgB, hhB,
      fun q hq => (hrn q (hpm.mem_iff.1 hq)).keep (fun p hp => grown_cell hg hgB (by have := hat.lt; omega) p hp), by rw [show ks.length + [r].length = rs.length + 1 by rw [hpm.length_eq]; rfl]; exact hnm⟩
  -- behind the swap
  have hsw : Calls Try.prog 68 #[.slice (some ⟨g, 0, none⟩) (rs.length + 1) c, .int .i64 0, .int .i64 rs.length] w fun e w' => (∃ x, e = .returned x) ∧ (∃ ks, ks.Perm rs ∧ HpD (L := LessR) (fn ks) rs.length 0 ∧ HS w' B gh g c c ks [r]) ∧ w.grownBy w' (some g) := by
    rcases List.eq_nil_or_concat rs with h0 | ⟨r1, l, h0⟩
    · subst h0
      refine (swap0_any g 1 c c [r] r w hat (by simp) (by omega) rfl fr (by omega)).mono ?_
      rintro e w' ⟨he, ha, hg⟩
      exact ⟨he, ⟨[], List.Perm.refl _, ⟨fun j _ hj => absurd hj (Nat.not_lt_zero _), fun j _ hj => absurd hj (Nat.not_lt_zero _)⟩, hgr w' [] hg ha (List.Perm.refl _)⟩, hg⟩
    · rw [List.concat_eq_append] at h0
      subst h0
      have hl : (r1 ++ [l]).length = r1.length + 1 := by simp
      rw [hl] at hnm hp ⊢
      refine (swap_any g _ c c 0 (r1.length + 1) (r :: (r1 ++ [l])) r l w hat (by simp) (by simp) (by omega) (by omega) (by omega) rfl (by simp) fr (hrn l (by simp)).form hnm).mono ?_
      rintro e w' ⟨he, ha, hg⟩
      rw [swap_ends (α := Unit)] at ha
      have hpm : (l :: r1).Perm (r1 ++ [l]) := (List.perm_append_singleton l r1).symm
      refine ⟨he, ⟨l :: r1, hpm, ?_, hgr w' _ hg ha hpm⟩, hg⟩
      refine hp.first (by omega) fun k h1 h2 => ?_
      obtain ⟨j, rfl⟩ : ∃ j, k = j + 1 := ⟨k - 1, by omega⟩
      unfold fn
      rw [List.getElem?_cons_succ, List.getElem?_cons_succ, List.getElem?_append_left (by omega)]
  have HRF := Lib.hid fr
  have HSW := Lib.hid hsw
  obtain ⟨N, hN⟩ : ∃ N, rs.length = N := ⟨_, rfl⟩
  have HN := Lib.hid hN
  rw [hN] at ml ms HSW hnm hcap ⊢
  have j1 : IntKind.i64.wrap (((N + 1 : Nat) : Int) - 1) = (N : Int) := by rw [IntWalk.i64_in _ (by omega)]; omega
  clear hsw hat hrn hgr hb hp hd hN fr
  go_enter Try.func25, Try.ntmps25
  go_wp2_with fail
  refine (len_any _ _ _ _ rfl _).mono ?_; rintro e w' ⟨rfl, rfl⟩
  clear ml
  go_wp2_with fail
  refine HSW.out.mono ?_
  rintro e w1 ⟨⟨x, rfl⟩, ⟨ks, k1, k2, k3⟩, k4⟩
  have hkl : ks.length = N := k1.length_eq.trans HN.out
  have hdn := down_any B gh g c c ks [r] w1 k3 (by rw [hkl]; exact k2)
  rw [hkl] at hdn
  have HDN := Lib.hid hdn; have K1 := Lib.hid k1; have HKL := Lib.hid hkl
  have HG1 := Lib.hid (Gr2.of_grown (x := gh) k4)
  clear k1 k2 k3 k4 hkl hdn ms
  go_wp2_with fail
  refine HDN.out.mono ?_
  rintro e w2 ⟨⟨b, rfl⟩, ⟨ls, k1, k2, k3⟩, k4⟩
  have L1 := Lib.hid (k1.trans K1.out)
  have hl : ls.length = N := k1.length_eq.trans HKL.out
  have L2 := Lib.hid k2
  have HG2 := Lib.hid (HG1.out.trans (Gr2.of_grown (x := gh) k4))
  have hpm := pop_m B gh g c c ls r w2 k3 HRF.out (by rw [hl]; exact hcap)
  have HPM := Lib.hid hpm
  have mp := method_pop gh w2
  clear k1 k2 k3 k4 hl hpm
  go_wp2_with fail
  refine HPM.out.mono ?_
  rintro e w3 ⟨⟨x, rfl⟩, k1, k2⟩
  have HF : Hid ((∃ ks, ks.Perm rs ∧ Hp LessR (fn ks) N ∧ HS w3 B gh g c c ks []) ∧ Gr2 w w3 gh g) := Lib.hid ⟨⟨ls, L1.out, L2.out, k1⟩, HG2.out.trans k2⟩
  clear k1 k2 mp
  go_wp2_with fail
  go_ret
  exact ⟨⟨_, rfl⟩, HF.out⟩
end Go.Proofs.Ytfcemlcocdhmfaa
