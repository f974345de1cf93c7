/- much: where it says no, the keys are short. -/
import Derived.Test.YtpgbinijocbfmaaP7
namespace Go.Proofs.Ytpgbinijocbfmaa
open Go.RowKit Go
set_option linter.unusedVariables false
set_option linter.unusedSimpArgs false
def SomeMuch2 (its : List It) (w : World) (e : Ending) (w' : World) : Prop := ∃ m : Bool, e = .returned (.bool m) ∧ (m = false → its.length ≤ 1000 ∧ ∀ q ∈ its, q.r.key.length ≤ 2000) ∧ ∃ n, w' = w.drewN n
set_option maxHeartbeats 1600000 in
theorem much2_any (A : Option Addr) (its : List It) (c : Nat) (w : World) (h : ItemsAt w A its) :
    Calls Try.prog 8 #[.slice A its.length c] w (SomeMuch2 its w) := by
  by_cases hl : 1000 < its.length
  · have hl' : (1000 : Int) < (its.length : Int) := by omega
    go_enter Try.func8, Try.ntmps8
    go_wp2_with fail
    go_ret
    exact ⟨true, rfl, fun h => by simp at h, 0, rfl⟩
  · have hl' : (its.length : Int) ≤ 1000 := by omega
    have HI := Lib.hid h; clear h
    obtain ⟨N, hN⟩ : ∃ N, its.length = N := ⟨_, rfl⟩
    have HN := Lib.hid hN
    rw [hN] at hl hl' ⊢
    clear hN
    go_enter Try.func8, Try.ntmps8
    go_wp2_with fail
    go_loopg [3, 4] N (fun g vn vi wr => ∃ (k s : Nat), g = N - k ∧ k ≤ N ∧ vi = .int .i64 k ∧ vn = .int .i64 s ∧ s ≤ 100000 ∧ (∀ q ∈ its.take k, q.r.key.length ≤ 2000) ∧ ∃ n, wr = w.drewN n)
    case atStart => exact ⟨0, 0, rfl, by omega, rfl, rfl, by omega, by simp, 0, rfl⟩
    case round =>
      obtain ⟨k, s, hgk, hk, rfl, rfl, hs, hall, n, rfl⟩ := hrel
      have HG := Lib.hid hgk; have HALL := Lib.hid hall; clear hgk hall
      by_cases hlt : k < N
      · have hlt' : k < its.length := by have := HN.out; omega
        obtain ⟨b, off, rfl, hb, hc⟩ := HI.out.1 (by omega)
        obtain ⟨c0, c1, c2, c3, c4⟩ := hc k hlt'
        obtain ⟨⟨Ak, ck, ek, _⟩, ⟨Av, cv, ev, _⟩, _⟩ := HI.out.2 _ (List.getElem_mem hlt')
        rw [ek] at c0; rw [ev] at c3
        obtain ⟨kl, hkl⟩ : ∃ m, its[k].r.key.length = m := ⟨_, rfl⟩
        obtain ⟨vl, hvl⟩ : ∃ m, its[k].r.val.length = m := ⟨_, rfl⟩
        rw [hkl] at c0; rw [hvl] at c3
        have HTK : Hid (its.take (k + 1) = its.take k ++ [its[k]]) := List.take_succ_eq_append_getElem hlt'
        have HKL := Lib.hid hkl
        clear hc ek ev hkl hvl c1 c2 c4
        have i1 : (0 : Int) ≤ (k : Int) := by omega
        have i2 : (k : Int) < (N : Int) := by omega
        by_cases hk2 : 2000 < kl
        · have hk3 : (2000 : Int) < (kl : Int) := by omega
          go_wp2_with fail
          go_ret
          exact ⟨true, rfl, fun h => by simp at h, n, rfl⟩
        · have hk3 : (kl : Int) ≤ 2000 := by omega
          by_cases hv2 : 10000 < vl
          · have hv3 : (10000 : Int) < (vl : Int) := by omega
            go_wp2_with fail
            go_ret
            exact ⟨true, rfl, fun h => by simp at h, n, rfl⟩
          · have hv3 : (vl : Int) ≤ 10000 := by omega
            have e1 : IntKind.i64.wrap ((s : Int) + (kl : Int)) = (s : Int) + (kl : Int) := IntWalk.i64_in _ (by omega)
            have e2 : IntKind.i64.wrap ((s : Int) + (kl : Int) + (vl : Int)) = (s : Int) + (kl : Int) + (vl : Int) := IntWalk.i64_in _ (by omega)
            go_wp2_with fail
            go_quiet (fail)
            clear e1 e2
            by_cases hb2 : 100000 < s + kl + vl
            · have hb3 : (100000 : Int) < (s : Int) + (kl : Int) + (vl : Int) := by omega
              go_wp2_with fail
              go_ret
              exact ⟨true, rfl, fun h => by simp at h, _, rfl⟩
            · have hb3 : (s : Int) + (kl : Int) + (vl : Int) ≤ 100000 := by omega
              go_wp2_with fail
              go_roundg (N - (k + 1))
              case measure => have := HG.out; omega
              case rel => exact ⟨k + 1, s + kl + vl, rfl, by omega, by go_num, by go_num, by omega, fun q hq => by
                rw [HTK.out, List.mem_append, List.mem_singleton] at hq
                rcases hq with hq | hq
                · exact HALL.out q hq
                · rw [hq, HKL.out]; omega, _, rfl⟩
      · have hkN : k = N := by omega
        subst hkN
        go_wp2_with fail
        go_ret
        exact ⟨false, rfl, fun _ => ⟨by rw [HN.out]; omega, fun q hq => HALL.out q (by rw [List.take_of_length_le (by rw [HN.out]; exact Nat.le_refl _)]; exact hq)⟩, n, rfl⟩

end Go.Proofs.Ytpgbinijocbfmaa
