/- num.Sum. -/
import Derived.Test.YtjimahagfkpacaaR3
namespace Go.Proofs.Ytjimahagfkpacaa
open Go.RowKit Go
set_option linter.unusedVariables false
set_option linter.unusedSimpArgs false

theorem add64_run (x y : Int) (hx : 0 ≤ x) (hy : 0 ≤ y) (w : World) : ∃ L C : Int, (callFunc 29 #[.int .u64 x, .int .u64 y, .int .u64 0]).run Try.prog w = .ok (.value (.tuple #[.int .u64 L, .int .u64 C])) w ∧
    Hid (x + y = C * 18446744073709551616 + L) ∧ 0 ≤ L ∧ L ≤ 18446744073709551615 := by
  refine ⟨(x + y) % 18446744073709551616, (x + y) / 18446744073709551616, ?_, by show _ = _; omega, by omega, by omega⟩
  rw [run_callFunc_extern Try.func29 (by kernel_rfl) (by kernel_rfl) (by kernel_rfl) (e := add64Entry) (by kernel_rfl), run_add64 x y 0 hx hy (by omega) (by omega)]
  simp [Result.andThen]

theorem u64_wrap (z : Int) : IntKind.u64.wrap z = z % 18446744073709551616 := by
  simp [IntKind.wrap, IntKind.bits, IntKind.signed]

theorem sum_any (A : Option Addr) (zs : List Int) (c : Nat) (w : World) (hr : Rd w w.heap.size 1 A zs.length (ints zs)) (hm : zs.length ≤ 100002) :
    Calls Try.prog 16 #[.slice A zs.length c] w fun e w' => e = .returned (pr (sumS zs)) ∧ Below w.heap.size w w' := by
  by_cases hall : zs.all amt = true
  · have HA := Lib.hid hall
    go_enter Try.func16, Try.ntmps16
    go_wp2_with fail
    refine (is_any A zs c w hr (by unfold maxLen; omega)).mono ?_; rintro e w' ⟨rfl, rfl⟩
    rw [hall]; clear hall
    go_wp2_with fail
    go_loop [4, 5, 15] (fun lo hi i => ∃ (k : Nat) (l h : Int), k ≤ zs.length ∧ i = .int .i64 k ∧ lo = .int .u64 l ∧ hi = .int .i64 h ∧ 0 ≤ l ∧ l ≤ 18446744073709551615 ∧ -k ≤ h ∧ h ≤ k ∧ Hid ((zs.take k).sum = h * 18446744073709551616 + l)) (fun _ _ i => zs.length - (intOf i).toNat)
    case atStart => exact ⟨0, 0, 0, by omega, rfl, rfl, rfl, by omega, by omega, by omega, by omega, rfl⟩
    case round =>
      obtain ⟨k, l, h, hk, rfl, rfl, rfl, hl0, hl1, hh0, hh1, HS⟩ := hrel
      by_cases hlt : k < zs.length
      · obtain ⟨b, off, rfl, hb, hc⟩ := hr.2 (by omega)
        have hcell := (hc k (by omega)).trans (ints_at zs k hlt)
        clear hc
        have hz := amt_yes (List.all_eq_true.1 HA.out _ (List.getElem_mem hlt))
        by_cases hneg : zs[k] < 0
        · have hu : 0 ≤ IntKind.u64.wrap zs[k] := by rw [u64_wrap]; omega
          obtain ⟨L, C, hadd, HL, hL0, hL1⟩ := add64_run l (IntKind.u64.wrap zs[k]) hl0 hu w
          have hC : 0 ≤ C ∧ C ≤ 1 := by have := HL.out; have h2 := u64_wrap zs[k]; omega
          go_wp2
          refine ⟨⟨k + 1, L, h + (zs[k] / 9223372036854775808 + C), by omega, by go_num, rfl, rfl, hL0, hL1, by omega, by omega, ?_⟩, by simp [intOf]; omega⟩
          show _ = _
          have h1 := HL.out; have h2 := HS.out; have h3 := u64_wrap zs[k]
          rw [sum_snoc _ _ hlt, h2]; omega
        · obtain ⟨L, C, hadd, HL, hL0, hL1⟩ := add64_run l zs[k] hl0 (by omega) w
          have hC : 0 ≤ C ∧ C ≤ 1 := by have := HL.out; omega
          go_wp2
          refine ⟨⟨k + 1, L, h + (zs[k] / 9223372036854775808 + C), by omega, by go_num, rfl, rfl, hL0, hL1, by omega, by omega, ?_⟩, by simp [intOf]; omega⟩
          show _ = _
          have h1 := HL.out; have h2 := HS.out
          rw [sum_snoc _ _ hlt, h2]; omega
      · have hl : zs.take k = zs := List.take_of_length_le (by omega)
        by_cases hq : wrap64 l / 9223372036854775808 = h
        · have H : Hid (zs.sum = wrap64 l) := by
            have h2 := HS.out; rw [hl] at h2
            show _ = _; unfold wrap64 at *; omega
          have hq2 : (h != wrap64 l / 9223372036854775808) = false := by simp [hq]
          have HQ := Lib.hid hq; clear hq
          by_cases hlow : l ≤ 9223372036854775807
          · have e : wrap64 l = l := by unfold wrap64; omega
            rw [e] at H hq2
            go_wp2_with fail
            refine (told_any l _).mono ?_; rintro e w1 ⟨rfl, hw1⟩; obtain ⟨hc1, hf1⟩ := bcell hw1; have hz1 := hw1.size; (try simp only [World.size_alloc, World.size_setCell, World.size_drew, size_drewN, Nat.add_one_le_iff] at hz1); (try have hy1 : w.heap.size < w1.heap.size := by omega); (try have hx1 : w.heap.size + 1 < w1.heap.size := by omega); have HW1 := Lib.hid hw1; clear hw1
            go_wp2_with fail
            go_ret2
            exact ⟨ret_pr (by rw [sumS, if_pos HA.out, H.out]), (by repeat' (first | (with_reducible exact Below.refl _ _) | (with_reducible refine Below.alloc ?_ ?_ _) | (with_reducible refine below_drewN ?_ _) | (with_reducible refine Below.drew ?_) | (with_reducible refine Below.setCell ?_ ?_ _) | (with_reducible refine Below.trans ?_ (Below.mono HW0.out ?_)) | (with_reducible refine Below.trans ?_ (Below.mono HW1.out ?_)) | (with_reducible refine Below.trans ?_ (Below.mono HW2.out ?_)) | (with_reducible refine Below.trans ?_ (Below.mono HW3.out ?_)) | (with_reducible refine Below.trans ?_ (Below.mono HW4.out ?_)) | (with_reducible refine Below.trans ?_ (Below.mono HW5.out ?_)) | (with_reducible refine Below.trans ?_ (Below.mono HW6.out ?_)) | (with_reducible refine Below.trans ?_ (Below.mono HW7.out ?_)) | (with_reducible exact Nat.le_refl _) | omega | (simp only [World.size_alloc, World.size_setCell, World.size_drew, size_drewN]; omega) | (simp; done) | (simp; omega)))⟩
          · go_wp2_with fail
            refine (told_any (wrap64 l) _).mono ?_; rintro e w1 ⟨rfl, hw1⟩; obtain ⟨hc1, hf1⟩ := bcell hw1; have hz1 := hw1.size; (try simp only [World.size_alloc, World.size_setCell, World.size_drew, size_drewN, Nat.add_one_le_iff] at hz1); (try have hy1 : w.heap.size < w1.heap.size := by omega); (try have hx1 : w.heap.size + 1 < w1.heap.size := by omega); have HW1 := Lib.hid hw1; clear hw1
            go_wp2_with fail
            go_ret2
            exact ⟨ret_pr (by rw [sumS, if_pos HA.out, H.out]), (by repeat' (first | (with_reducible exact Below.refl _ _) | (with_reducible refine Below.alloc ?_ ?_ _) | (with_reducible refine below_drewN ?_ _) | (with_reducible refine Below.drew ?_) | (with_reducible refine Below.setCell ?_ ?_ _) | (with_reducible refine Below.trans ?_ (Below.mono HW0.out ?_)) | (with_reducible refine Below.trans ?_ (Below.mono HW1.out ?_)) | (with_reducible refine Below.trans ?_ (Below.mono HW2.out ?_)) | (with_reducible refine Below.trans ?_ (Below.mono HW3.out ?_)) | (with_reducible refine Below.trans ?_ (Below.mono HW4.out ?_)) | (with_reducible refine Below.trans ?_ (Below.mono HW5.out ?_)) | (with_reducible refine Below.trans ?_ (Below.mono HW6.out ?_)) | (with_reducible refine Below.trans ?_ (Below.mono HW7.out ?_)) | (with_reducible exact Nat.le_refl _) | omega | (simp only [World.size_alloc, World.size_setCell, World.size_drew, size_drewN]; omega) | (simp; done) | (simp; omega)))⟩
        · have H : Hid (sumS zs = (0, 2)) := by
            have h2 := HS.out; rw [hl] at h2
            show _ = _
            rw [sumS, if_pos HA.out]; refine told_no ?_
            unfold wrap64 at hq; simp [amt]; omega
          have hq2 : (h != wrap64 l / 9223372036854775808) = true := by simp; omega
          by_cases hlow : l ≤ 9223372036854775807
          · have e : wrap64 l = l := by unfold wrap64; omega
            rw [e] at hq2 hq; clear e
            clear hq
            go_wp2_with fail
            go_ret2
            exact ⟨ret_pr H.out, Below.refl _ _⟩
          · clear hq
            go_wp2_with fail
            go_ret2
            exact ⟨ret_pr H.out, Below.refl _ _⟩
  · have H : Hid (sumS zs = (0, 1)) := by show _ = _; rw [sumS, if_neg hall]
    go_enter Try.func16, Try.ntmps16
    go_wp2_with fail
    refine (is_any A zs c w hr (by unfold maxLen; omega)).mono ?_; rintro e w' ⟨rfl, rfl⟩
    rw [Bool.eq_false_iff.2 hall]; clear hall
    go_wp2_with fail
    go_ret2
    exact ⟨ret_pr H.out, Below.refl _ _⟩
end Go.Proofs.Ytjimahagfkpacaa
