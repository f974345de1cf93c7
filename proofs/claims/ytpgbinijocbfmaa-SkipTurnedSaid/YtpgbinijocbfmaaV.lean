/- levels: of a draw. -/
import Derived.Test.YtpgbinijocbfmaaC
namespace Go.Proofs.Ytpgbinijocbfmaa
open Go.RowKit Go
set_option linter.unusedVariables false
set_option linter.unusedSimpArgs false

def levN : Nat → Nat → Nat
  | 0, _ => 12
  | f + 1, d => if d % 4 = 0 then levN f (d / 4) else 12 - (f + 1)
/-- So many levels has a draw. -/
def levS (draw : Int) : Nat := if draw < 0 then 1 else levN 11 draw.toNat
theorem levN_step (f d : Nat) : levN f d = if f = 0 then 12 else if d % 4 = 0 then levN (f - 1) (d / 4) else 12 - f := by cases f <;> simp [levN]
theorem levN_low : ∀ f d, f ≤ 11 → 1 ≤ levN f d ∧ levN f d ≤ 12
  | 0, _, _ => by simp [levN]
  | f + 1, d, h => by
    unfold levN; split
    · exact levN_low f _ (by omega)
    · omega
theorem levS_low (draw : Int) : 1 ≤ levS draw ∧ levS draw ≤ 12 := by
  unfold levS; split
  · omega
  · exact levN_low 11 _ (by omega)

theorem tm4 (d : Nat) : Int.tmod (d : Int) 4 = ((d % 4 : Nat) : Int) := (Int.ofNat_tmod d 4).symm
theorem and_3 (d : Nat) (h : d < 9223372036854775808) : bits .and .i64 (d : Int) 3 = ((d % 4 : Nat) : Int) := by
  have h1 : (BitVec.ofInt 64 (d : Int)).toNat = d := by
    rw [BitVec.ofInt_natCast, BitVec.toNat_ofNat]; exact Nat.mod_eq_of_lt (by omega)
  have h2 : (BitVec.ofInt 64 (3 : Int)).toNat = 3 := rfl
  have h3 : d &&& 3 = d % 4 := Nat.and_two_pow_sub_one_eq_mod d 2
  show IntKind.i64.wrap ((BitVec.ofInt 64 (d : Int) &&& BitVec.ofInt 64 (3 : Int)).toNat : Int) = _
  rw [BitVec.toNat_and, h1, h2, h3]
  exact IntWalk.i64_in _ (by omega)

set_option maxHeartbeats 800000 in
theorem levels_any (draw : Int) (w : World) (hd : -9223372036854775808 ≤ draw ∧ draw ≤ 9223372036854775807) : Calls Try.prog 27 #[.int .i64 draw] w fun e w' => e = .returned (.int .i64 (levS draw)) ∧ w' = w := by
  by_cases hneg : draw < 0
  · go_enter Try.func27, Try.ntmps27
    go_wp2_with fail
    refine wp_loop_rounds 1 ?_
    rw [rounds_succ]
    go_wp2_with fail
    go_ret
    exact ⟨by rw [levS, if_pos hneg]; rfl, rfl⟩
  · obtain ⟨d0, rfl⟩ := Int.eq_ofNat_of_zero_le (show 0 ≤ draw by omega)
    have HG : Hid (levS d0 = levN 11 d0) := by show _ = _; rw [levS, if_neg hneg]; simp
    go_enter Try.func27, Try.ntmps27
    go_wp2_with fail
    go_loop [0, 3] (fun vd vn => ∃ (k d : Nat), k ≤ 11 ∧ vn = .int .i64 (1 + k : Nat) ∧ vd = .int .i64 d ∧ d ≤ 9223372036854775807 ∧ Hid (levN (11 - k) d = levN 11 d0)) (fun _ vn => 12 - (intOf vn).toNat)
    case atStart => exact ⟨0, d0, by omega, rfl, rfl, by omega, rfl⟩
    case round =>
      obtain ⟨k, d, hk, rfl, rfl, hd1, HL⟩ := hrel
      have ea := and_3 d (by omega)
      have es := levN_step (11 - k) d
      by_cases hz : d % 4 = 0
      · rw [hz] at ea
        by_cases hk2 : k < 11
        · have HL2 : Hid (levN (11 - (k + 1)) (d / 4) = levN 11 d0) := by
            have := HL.out; rw [es, if_neg (by omega), if_pos hz] at this
            exact this
          clear es
          go_wp2_with fail
          exact ⟨⟨k + 1, d / 4, by omega, by go_num, by go_num, by omega, HL2⟩, by simp [intOf]; omega⟩
        · have HR : Hid (levN 11 d0 = 12) := by
            have := HL.out; rw [es, if_pos (by omega)] at this
            exact this.symm
          have hk3 : k = 11 := by omega
          subst hk3
          clear es
          go_wp2_with fail
          go_ret
          exact ⟨by rw [HG.out, HR.out]; rfl, rfl⟩
      · have ez : (((d % 4 : Nat) : Int) == 0) = false := by simp; omega
        by_cases hk2 : k < 11
        · have HR : Hid (levN 11 d0 = 1 + k) := by
            have := HL.out; rw [es, if_neg (by omega), if_neg hz] at this
            show _ = _; omega
          clear es
          go_wp2_with fail
          go_ret
          exact ⟨by rw [HG.out, HR.out]; rfl, rfl⟩
        · have HR : Hid (levN 11 d0 = 1 + k) := by
            have := HL.out; rw [es, if_pos (by omega)] at this
            show _ = _; omega
          clear es
          go_wp2_with fail
          go_ret
          exact ⟨by rw [HG.out, HR.out]; rfl, rfl⟩

set_option maxHeartbeats 800000 in
theorem levels_ref (draw : Int) (w : World) (hd : -9223372036854775808 ≤ draw ∧ draw ≤ 9223372036854775807) : Calls Try.prog 30 #[.int .i64 draw] w fun e w' => e = .returned (.int .i64 (levS draw)) ∧ w' = w := by
  by_cases hneg : draw < 0
  · go_enter Try.func30, Try.ntmps30
    go_wp2_with fail
    go_ret
    exact ⟨by rw [levS, if_pos hneg]; rfl, rfl⟩
  · obtain ⟨d0, rfl⟩ := Int.eq_ofNat_of_zero_le (show 0 ≤ draw by omega)
    have HG : Hid (levS d0 = levN 11 d0) := by show _ = _; rw [levS, if_neg hneg]; simp
    go_enter Try.func30, Try.ntmps30
    go_wp2_with fail
    go_loop [0, 3] (fun vd vn => ∃ (k d : Nat), k ≤ 11 ∧ vn = .int .i64 (1 + k : Nat) ∧ vd = .int .i64 d ∧ d ≤ 9223372036854775807 ∧ Hid (levN (11 - k) d = levN 11 d0)) (fun _ vn => 12 - (intOf vn).toNat)
    case atStart => exact ⟨0, d0, by omega, rfl, rfl, by omega, rfl⟩
    case round =>
      obtain ⟨k, d, hk, rfl, rfl, hd1, HL⟩ := hrel
      have es := levN_step (11 - k) d
      by_cases hk2 : k < 11
      · by_cases hz : d % 4 = 0
        · have HL2 : Hid (levN (11 - (k + 1)) (d / 4) = levN 11 d0) := by
            have := HL.out; rw [es, if_neg (by omega), if_pos hz] at this
            exact this
          clear es
          have ez : Int.tmod (d : Int) 4 = 0 := by rw [tm4]; omega
          have eq : Int.tdiv (d : Int) 4 = ((d / 4 : Nat) : Int) := (Int.ofNat_tdiv d 4).symm
          go_wp2_with fail
          exact ⟨⟨k + 1, d / 4, by omega, by go_num, by go_num, by omega, HL2⟩, by simp [intOf]; omega⟩
        · have HR : Hid (levN 11 d0 = 1 + k) := by
            have := HL.out; rw [es, if_neg (by omega), if_neg hz] at this
            show _ = _; omega
          clear es
          have ez : (Int.tmod (d : Int) 4 == 0) = false := by rw [tm4]; simp; omega
          go_wp2_with fail
          go_ret
          exact ⟨by rw [HG.out, HR.out]; rfl, rfl⟩
      · have HR : Hid (levN 11 d0 = 1 + k) := by
          have := HL.out; rw [es, if_pos (by omega)] at this
          show _ = _; omega
        clear es
        go_wp2_with fail
        go_ret
        exact ⟨by rw [HG.out, HR.out]; rfl, rfl⟩
end Go.Proofs.Ytpgbinijocbfmaa
