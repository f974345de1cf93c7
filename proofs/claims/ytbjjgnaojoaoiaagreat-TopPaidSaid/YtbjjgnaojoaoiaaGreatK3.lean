/- math/bits.Div64. -/
import Derived.Test.YtbjjgnaojoaoiaaGreatK2
import Derived.Deep.DeepCutAuto
import Derived.Deep.CutBlock
import Derived.Test.YtbjjgnaojoaoiaaGreatK0
import Derived.Deep.RegionHeld3
import Derived.Deep.RegionWith
namespace Go.Proofs.YtbjjgnaojoaoiaaGreat
open Go.RowKit Go
set_option linter.unusedVariables false
set_option linter.unusedSimpArgs false

theorem bitLen_bd : ∀ (x : Nat), x ≠ 0 → x < 2 ^ 64 → 2 ^ Lib.bitLen x ≤ 2 * x ∧ x < 2 ^ Lib.bitLen x := by
  intro x
  induction x using Nat.strongRecOn with
  | _ x ih =>
    intro h0 h1
    rw [Lib.bitLen_half x h0 h1, Nat.pow_add, Nat.pow_one]
    by_cases h : x / 2 = 0
    · rw [h]
      have : Lib.bitLen 0 = 0 := by decide
      rw [this]; omega
    · have := ih (x / 2) (by omega) h (by omega)
      omega

theorem lz_ex (y : Int) (h0 : 1 ≤ y) (h1 : y ≤ 4611686018427387904) : ∃ s : Nat, 1 ≤ s ∧ s ≤ 63 ∧ (64 - (Lib.bitLen y.toNat : Int)) = s ∧ 9223372036854775808 ≤ y * 2 ^ s ∧ y * 2 ^ s < 18446744073709551616 := by
  obtain ⟨x, rfl⟩ := Int.eq_ofNat_of_zero_le (show 0 ≤ y by omega)
  rw [Int.toNat_natCast]
  obtain ⟨a, b⟩ := bitLen_bd x (by omega) (by omega)
  have hL : Lib.bitLen x ≤ 63 := by
    rcases Nat.lt_or_ge 63 (Lib.bitLen x) with h | h
    · have : 2 ^ 64 ≤ 2 ^ Lib.bitLen x := Nat.pow_le_pow_right (by omega) h
      omega
    · exact h
  have hL1 : 1 ≤ Lib.bitLen x := by
    rcases Nat.eq_zero_or_pos (Lib.bitLen x) with h | h
    · rw [h] at b; omega
    · exact h
  refine ⟨64 - Lib.bitLen x, by omega, by omega, by omega, ?_⟩
  have hp : 2 ^ Lib.bitLen x * 2 ^ (64 - Lib.bitLen x) = 2 ^ 64 := by rw [← Nat.pow_add]; congr 1; omega
  have c1 : 2 ^ 64 ≤ 2 * x * 2 ^ (64 - Lib.bitLen x) := by rw [← hp]; exact Nat.mul_le_mul_right _ a
  have c2 : x * 2 ^ (64 - Lib.bitLen x) < 2 ^ 64 := by rw [← hp]; exact Nat.mul_lt_mul_of_pos_right b (Nat.pow_pos (by omega))
  have e : (x : Int) * 2 ^ (64 - Lib.bitLen x) = ((x * 2 ^ (64 - Lib.bitLen x) : Nat) : Int) := by simp
  rw [e]
  generalize 2 ^ (64 - Lib.bitLen x) = Q at *
  rw [Nat.mul_assoc] at c1
  generalize x * Q = z at *
  omega

theorem or_parts (a b : Int) (s : Nat) (ha : 0 ≤ a) (hb0 : 0 ≤ b) (hb : b < 2 ^ s) (hlt : a * 2 ^ s + b < 18446744073709551616) : bits .or .u64 (a * 2 ^ s) b = a * 2 ^ s + b := by
  obtain ⟨x, rfl⟩ := Int.eq_ofNat_of_zero_le ha
  obtain ⟨z, rfl⟩ := Int.eq_ofNat_of_zero_le hb0
  have e : (x : Int) * 2 ^ s = ((2 ^ s * x : Nat) : Int) := by simp [Int.mul_comm]
  have hb' : z < 2 ^ s := by
    have : ((z : Nat) : Int) < ((2 ^ s : Nat) : Int) := by simpa using hb
    omega
  rw [e] at hlt ⊢
  rw [bits_or_u64_nat _ _ (by omega) (by omega), ← Nat.two_pow_add_eq_or_of_lt hb']
  omega

theorem and_low (Y : Int) (h0 : 0 ≤ Y) (h1 : Y < 18446744073709551616) : bits .and .u64 Y 4294967295 = Y % 4294967296 := by
  obtain ⟨x, rfl⟩ := Int.eq_ofNat_of_zero_le h0
  have := bits_and_u64_nat x 4294967295 (by omega) (by omega)
  rw [show ((4294967295 : Nat) : Int) = 4294967295 from rfl] at this
  rw [this, show (4294967295 : Nat) = 2 ^ 32 - 1 by rfl, Nat.and_two_pow_sub_one_eq_mod]
  omega

/-- What the walk of Div64 is told of the shifted numbers. -/
theorem div64_prep (hi lo y : Int) (h0 : 1 ≤ hi) (h1 : hi < y) (hl0 : 0 ≤ lo) (hl1 : lo ≤ 18446744073709551615) (hy : y ≤ 4611686018427387904) :
    ∃ (s : Nat) (Y a1 a0 u T t1 t0 : Int), 1 ≤ s ∧ s ≤ 63 ∧ Hid (64 - (Lib.bitLen y.toNat : Int) = s) ∧ Hid (IntKind.u64.wrap (y * 2 ^ s) = Y ∧ Y / 4294967296 = a1 ∧ bits .and .u64 Y 4294967295 = a0 ∧
      bits .or .u64 (IntKind.u64.wrap (hi * 2 ^ s)) (lo / 2 ^ (64 - s)) = u ∧ IntKind.u64.wrap (lo * 2 ^ s) = T ∧ T / 4294967296 = t1 ∧ bits .and .u64 T 4294967295 = t0) ∧
      (2147483648 ≤ a1 ∧ a1 ≤ 4294967295) ∧ (0 ≤ a0 ∧ a0 ≤ 4294967295) ∧ (0 ≤ t1 ∧ t1 ≤ 4294967295) ∧ (0 ≤ t0 ∧ t0 ≤ 4294967295) ∧ (0 ≤ u ∧ u < a1 * 4294967296 + a0) ∧
      Hid (Y = a1 * 4294967296 + a0) ∧ Hid (Y = y * 2 ^ s) ∧ Hid ((u * 4294967296 + t1) * 4294967296 + t0 = (hi * 18446744073709551616 + lo) * 2 ^ s) := by
  obtain ⟨s, hs1, hs2, hs, hY0, hY1⟩ := lz_ex y (by omega) hy
  obtain ⟨e1, e2, e3, e4⟩ := shl_split (hi := hi) (lo := lo) (y := y) hs1 hs2 (by omega) h1 hl0 (by omega)
  have hhi : hi * 2 ^ s + lo / 2 ^ (64 - s) < 18446744073709551616 := by omega
  have hh0 : 0 ≤ hi * 2 ^ s := Int.mul_nonneg (by omega) (Int.le_of_lt (Int.pow_pos (by omega)))
  have wr : ∀ z : Int, IntKind.u64.wrap z = z % 18446744073709551616 := fun z => by simp [IntKind.wrap, IntKind.bits, IntKind.signed]
  refine ⟨s, y * 2 ^ s, y * 2 ^ s / 4294967296, y * 2 ^ s % 4294967296, hi * 2 ^ s + lo / 2 ^ (64 - s), (lo * 2 ^ s) % 18446744073709551616, (lo * 2 ^ s) % 18446744073709551616 / 4294967296, (lo * 2 ^ s) % 18446744073709551616 % 4294967296, hs1, hs2, hs, ⟨?_, rfl, ?_, ?_, wr _, rfl, ?_⟩, by omega, by omega, by omega, by omega, ⟨by omega, by omega⟩, ?_, rfl, ?_⟩
  · rw [wr]; exact Int.emod_eq_of_lt (by omega) hY1
  · exact and_low _ (by omega) hY1
  · rw [wr, Int.emod_eq_of_lt hh0 (by omega)]; exact or_parts hi _ s (by omega) e1 e2 hhi
  · exact and_low _ (by omega) (by omega)
  · show _ = _; omega
  · show _ = _; omega

/-- A digit's guess is lowered till it fits. -/
def Guess (a1 a0 u v : Int) (x z : Value) : Prop := ∃ q r : Int, x = .int .u64 q ∧ z = .int .u64 r ∧ 0 ≤ r ∧ r ≤ 4294967295 ∧ 0 ≤ q ∧ q ≤ 4294967297 ∧ Hid (u = q * a1 + r) ∧ Hid ((u * 4294967296 + v) / (a1 * 4294967296 + a0) ≤ q)

theorem guess_ex (a1 a0 u v : Int) (ha1 : 2147483648 ≤ a1 ∧ a1 ≤ 4294967295) (ha0 : 0 ≤ a0 ∧ a0 ≤ 4294967295) (hv : 0 ≤ v ∧ v ≤ 4294967295) (hu : 0 ≤ u ∧ u < a1 * 4294967296 + a0) :
    ∃ g r : Int, Hid (u / a1 = g) ∧ (0 ≤ g * a1 ∧ g * a1 ≤ u) ∧ Hid (u - g * a1 = r) ∧ Guess a1 a0 u v (.int .u64 g) (.int .u64 r) := by
  obtain ⟨g0, g1, g2, g3, g4, g5⟩ := knuth_guess ha1.1 ha0.1 (by omega) hu.1 hu.2 v hv.1 (by omega)
  exact ⟨u / a1, u - u / a1 * a1, rfl, ⟨Int.mul_nonneg g0 (by omega), by omega⟩, rfl, u / a1, u - u / a1 * a1, rfl, rfl, g4, by omega, g0, g1, g3, g2⟩

theorem guess_over2 {a1 a0 u v q Q : Int} (HQ : Hid ((u * 4294967296 + v) / (a1 * 4294967296 + a0) = Q)) (ha1 : 2147483648 ≤ a1 ∧ a1 ≤ 4294967295) (ha0 : 0 ≤ a0 ∧ a0 ≤ 4294967295) (hv : 0 ≤ v ∧ v ≤ 4294967295) (hu : 0 ≤ u ∧ u < a1 * 4294967296 + a0) (hq : 4294967296 ≤ q) : Q < q := by
  have := knuth_small (Y := a1 * 4294967296 + a0) (u := u) (v := v) (by omega) hu.2 (by omega)
  rw [HQ.out] at this; omega
theorem guess_over {a1 a0 u v q r Q : Int} (HQ : Hid ((u * 4294967296 + v) / (a1 * 4294967296 + a0) = Q)) (ha1 : 2147483648 ≤ a1 ∧ a1 ≤ 4294967295) (ha0 : 0 ≤ a0 ∧ a0 ≤ 4294967295) (he : Hid (u = q * a1 + r)) (h : 4294967296 * r + v < q * a0) : Q < q := by
  have := knuth_over (v := v) he.out (a0 := a0) (by omega)
  rw [HQ.out] at this; omega
theorem guess_next {a1 u q r : Int} (he : Hid (u = q * a1 + r)) : Hid (u = (q - 1) * a1 + (r + a1)) := by
  show _ = _; rw [Int.sub_mul, Int.one_mul]; have := he.out; omega
theorem guess_less {a1 a0 u v q Q : Int} (hge : Hid ((u * 4294967296 + v) / (a1 * 4294967296 + a0) ≤ q)) (ho : Hid (Q < q)) (HQ : Hid ((u * 4294967296 + v) / (a1 * 4294967296 + a0) = Q)) : Hid ((u * 4294967296 + v) / (a1 * 4294967296 + a0) ≤ q - 1) := by
  show _ ≤ _; rw [HQ.out]; have := ho.out; omega
theorem guess_stop {a1 a0 u v q r Q : Int} (HQ : Hid ((u * 4294967296 + v) / (a1 * 4294967296 + a0) = Q)) (ha1 : 2147483648 ≤ a1 ∧ a1 ≤ 4294967295) (ha0 : 0 ≤ a0 ∧ a0 ≤ 4294967295) (he : Hid (u = q * a1 + r)) (hge : Hid ((u * 4294967296 + v) / (a1 * 4294967296 + a0) ≤ q)) (h : ¬ 4294967296 * r + v < q * a0) : Value.int .u64 q = .int .u64 Q := by
  have a := knuth_done (v := v) he.out (a0 := a0) (by omega) (by omega)
  have b := hge.out
  rw [HQ.out] at a b
  rw [show q = Q by omega]
theorem guess_break {a1 a0 u v q r Q : Int} (HQ : Hid ((u * 4294967296 + v) / (a1 * 4294967296 + a0) = Q)) (ha1 : 2147483648 ≤ a1 ∧ a1 ≤ 4294967295) (ha0 : 0 ≤ a0 ∧ a0 ≤ 4294967295) (hv : 0 ≤ v ∧ v ≤ 4294967295) (hu : 0 ≤ u ∧ u < a1 * 4294967296 + a0)
    (he : Hid (u = q * a1 + r)) (hge : Hid ((u * 4294967296 + v) / (a1 * 4294967296 + a0) ≤ q)) (ho : Hid (Q < q)) (hb : 4294967296 ≤ r + a1) (hq1 : q ≤ 4294967297) : Value.int .u64 (q - 1) = .int .u64 Q := by
  have hQ0 : 0 ≤ Q := by rw [← HQ.out]; exact Int.ediv_nonneg (by omega) (by omega)
  have ho := ho.out
  have m : (q - 1) * a0 ≤ 18446744069414584320 := by
    refine Int.le_trans (Int.mul_le_mul_of_nonneg_left ha0.2 (by omega)) ?_
    omega
  have a := knuth_done (v := v) (guess_next he).out (a0 := a0) (by omega) (by omega)
  rw [HQ.out] at a
  rw [show q - 1 = Q by omega]
theorem mul_bd {q a : Int} (hq : 0 ≤ q ∧ q ≤ 4294967296) (ha : 0 ≤ a ∧ a ≤ 4294967295) : 0 ≤ q * a ∧ q * a ≤ 18446744069414584320 := by
  refine ⟨Int.mul_nonneg hq.1 ha.1, Int.le_trans (Int.mul_le_mul_of_nonneg_left ha.2 hq.1) ?_⟩
  omega

theorem digit_bd {a1 a0 u v Q : Int} (HQ : Hid ((u * 4294967296 + v) / (a1 * 4294967296 + a0) = Q)) (ha1 : 2147483648 ≤ a1 ∧ a1 ≤ 4294967295) (ha0 : 0 ≤ a0 ∧ a0 ≤ 4294967295) (hv : 0 ≤ v ∧ v ≤ 4294967295) (hu : 0 ≤ u ∧ u < a1 * 4294967296 + a0) : 0 ≤ Q ∧ Q ≤ 4294967295 := by
  have a := knuth_small (Y := a1 * 4294967296 + a0) (u := u) (v := v) (by omega) hu.2 (by omega)
  have b : 0 ≤ (u * 4294967296 + v) / (a1 * 4294967296 + a0) := Int.ediv_nonneg (by omega) (by omega)
  rw [HQ.out] at a b; omega
theorem rest_ex {Y a1 a0 u v Q : Int} (HQ : Hid ((u * 4294967296 + v) / (a1 * 4294967296 + a0) = Q)) (HY : Hid (Y = a1 * 4294967296 + a0)) (ha1 : 2147483648 ≤ a1 ∧ a1 ≤ 4294967295) (ha0 : 0 ≤ a0 ∧ a0 ≤ 4294967295) (hv : 0 ≤ v ∧ v ≤ 4294967295) (hu : 0 ≤ u ∧ u < a1 * 4294967296 + a0) :
    ∃ r1, Hid (IntKind.u64.wrap (IntKind.u64.wrap (IntKind.u64.wrap (u * 4294967296) + v) - IntKind.u64.wrap (Q * Y)) = r1) ∧ (0 ≤ r1 ∧ r1 < a1 * 4294967296 + a0) ∧ Hid (r1 = u * 4294967296 + v - Q * Y) := by
  have wr : ∀ z : Int, IntKind.u64.wrap z = z % 18446744073709551616 := fun z => by simp [IntKind.wrap, IntKind.bits, IntKind.signed]
  have e := Int.mul_ediv_add_emod (u * 4294967296 + v) Y
  have hY : Y = a1 * 4294967296 + a0 := HY.out
  have hq : (u * 4294967296 + v) / Y = Q := by rw [hY]; exact HQ.out
  have m0 := Int.emod_nonneg (u * 4294967296 + v) (show Y ≠ 0 by omega)
  have m1 := Int.emod_lt_of_pos (u * 4294967296 + v) (show 0 < Y by omega)
  rw [hq] at e
  have ec : Y * Q = Q * Y := Int.mul_comm _ _
  refine ⟨u * 4294967296 + v - Q * Y, ?_, by omega, rfl⟩
  show _ = _
  rw [wr, wr, wr, wr]; omega

set_option maxHeartbeats 1600000 in
set_option maxRecDepth 100000 in
theorem div64_any (hi lo y : Int) (w : World) (h0 : 1 ≤ hi) (h1 : hi < y) (hl0 : 0 ≤ lo) (hl1 : lo ≤ 18446744073709551615) (hy : y ≤ 4611686018427387904) :
    Calls Tryz.prog 178 #[.int .u64 hi, .int .u64 lo, .int .u64 y] w fun e w' => e = .returned (.tuple #[.int .u64 ((hi * 18446744073709551616 + lo) / y), .int .u64 ((hi * 18446744073709551616 + lo) % y)]) ∧ Below w.heap.size w w' := by
  have hy0 : (y == 0) = false := by simp; omega
  have hh0 : (hi == 0) = false := by simp; omega
  obtain ⟨s, Y, a1, a0, u, T, t1, t0, hs1, hs2, hs, QQ, ha1, ha0, ht1, ht0, hu, HY, HYs, HU⟩ := div64_prep hi lo y h0 h1 hl0 hl1 hy
  obtain ⟨g, r, G1, G2, G3, HG⟩ := guess_ex a1 a0 u t1 ha1 ha0 ht1 hu
  obtain ⟨qY, qa1, qa0, qu, qT, qt1, qt0⟩ := QQ.out
  have qg := G1.out
  have qr := G3.out
  go_enter Tryz.func178, Tryz.ntmps178
  go_upto_block 0 with (go_at_call 197; refine (Tryz.bits_LeadingZeros64 y _ (by omega) (by omega)).mono ?_; rintro e w1 ⟨rfl, rfl⟩; rw [hs.out])
  clear qY qa1 qa0 qu qT qt1 qt0 qg qr
  obtain ⟨Q1, hQ1⟩ : ∃ Q1, (u * 4294967296 + t1) / (a1 * 4294967296 + a0) = Q1 := ⟨_, rfl⟩
  have HQ1 := Lib.hid hQ1; clear hQ1
  go_cut [15, 16] (fun s15 s16 wc => s15 = .int .u64 Q1 ∧ wc = w1)
  case first =>
    go_wp2_with fail
    go_loop [15, 16] (fun x z => Guess a1 a0 u t1 x z) (fun x _ => (intOf x).toNat)
    case atStart => exact (by rw [G1.out]; exact HG)
    case round =>
      obtain ⟨q, r, rfl, rfl, hr0, hr1, hq0, hq1, hue, hge⟩ := hrel
      by_cases hq : 4294967296 ≤ q
      · have over := guess_over2 HQ1 ha1 ha0 ht1 hu hq
        have HOV := Lib.hid over; clear over
        by_cases hb : 4294967296 ≤ r + a1
        · go_wp2_with fail
          go_meet
          exact ⟨guess_break HQ1 ha1 ha0 ht1 hu hue hge HOV hb hq1, rfl⟩
        · go_wp2_with fail
          refine ⟨⟨q - 1, r + a1, rfl, rfl, by omega, by omega, by omega, by omega, guess_next hue, guess_less hge HOV HQ1⟩, by simp [intOf]; omega⟩
      · have hm := mul_bd (q := q) (a := a0) ⟨hq0, by omega⟩ ha0
        by_cases hgt : 4294967296 * r + t1 < q * a0
        · have over := guess_over HQ1 ha1 ha0 hue hgt
          have HOV := Lib.hid over; clear over
          have hqp : 1 ≤ q := by
            rcases Int.lt_or_le 0 q with h | h
            · omega
            · have : q = 0 := by omega
              subst this; omega
          by_cases hb : 4294967296 ≤ r + a1
          · go_wp2_with fail
            go_meet
            exact ⟨guess_break HQ1 ha1 ha0 ht1 hu hue hge HOV hb hq1, rfl⟩
          · go_wp2_with fail
            refine ⟨⟨q - 1, r + a1, rfl, rfl, by omega, by omega, by omega, by omega, guess_next hue, guess_less hge HOV HQ1⟩, by simp [intOf]; omega⟩
        · go_wp2_with fail
          go_meet
          exact ⟨guess_stop HQ1 ha1 ha0 hue hge (by omega), rfl⟩
  case rest =>
    obtain ⟨rfl, rfl⟩ := hcut
    have hQ1b := digit_bd HQ1 ha1 ha0 ht1 hu
    obtain ⟨r1, R1, hu1, HR1⟩ := rest_ex HQ1 HY ha1 ha0 ht1 hu
    obtain ⟨g', r', G1', G2', G3', HG'⟩ := guess_ex a1 a0 r1 t0 ha1 ha0 ht0 hu1
    have qr1 := R1.out
    have qg := G1'.out
    have qr := G3'.out
    go_upto_block 2 with fail
    clear qr1 qg qr
    obtain ⟨Q0, hQ0⟩ : ∃ Q0, (r1 * 4294967296 + t0) / (a1 * 4294967296 + a0) = Q0 := ⟨_, rfl⟩
    have HQ0 := Lib.hid hQ0; clear hQ0
    go_cut [18, 16] (fun s18 s16 wc' => s18 = .int .u64 Q0 ∧ wc' = wc)
    case first =>
      go_wp2_with fail
      go_loop [18, 16] (fun x z => Guess a1 a0 r1 t0 x z) (fun x _ => (intOf x).toNat)
      case atStart => exact (by rw [G1'.out]; exact HG')
      case round =>
        obtain ⟨q, r, rfl, rfl, hr0, hr1, hq0, hq1, hue, hge⟩ := hrel
        by_cases hq : 4294967296 ≤ q
        · have over := guess_over2 HQ0 ha1 ha0 ht0 hu1 hq
          have HOV := Lib.hid over; clear over
          by_cases hb : 4294967296 ≤ r + a1
          · go_wp2_with fail
            go_meet
            exact ⟨guess_break HQ0 ha1 ha0 ht0 hu1 hue hge HOV hb hq1, rfl⟩
          · go_wp2_with fail
            refine ⟨⟨q - 1, r + a1, rfl, rfl, by omega, by omega, by omega, by omega, guess_next hue, guess_less hge HOV HQ0⟩, by simp [intOf]; omega⟩
        · have hm := mul_bd (q := q) (a := a0) ⟨hq0, by omega⟩ ha0
          by_cases hgt : 4294967296 * r + t0 < q * a0
          · have over := guess_over HQ0 ha1 ha0 hue hgt
            have HOV := Lib.hid over; clear over
            have hqp : 1 ≤ q := by
              rcases Int.lt_or_le 0 q with h | h
              · omega
              · have : q = 0 := by omega
                subst this; omega
            by_cases hb : 4294967296 ≤ r + a1
            · go_wp2_with fail
              go_meet
              exact ⟨guess_break HQ0 ha1 ha0 ht0 hu1 hue hge HOV hb hq1, rfl⟩
            · go_wp2_with fail
              refine ⟨⟨q - 1, r + a1, rfl, rfl, by omega, by omega, by omega, by omega, guess_next hue, guess_less hge HOV HQ0⟩, by simp [intOf]; omega⟩
          · go_wp2_with fail
            go_meet
            exact ⟨guess_stop HQ0 ha1 ha0 hue hge (by omega), rfl⟩
    case rest =>
      obtain ⟨rfl, rfl⟩ := hcut
      have hQ0b := digit_bd HQ0 ha1 ha0 ht0 hu1
      obtain ⟨r0, R0, hu0, HR0⟩ := rest_ex HQ0 HY ha1 ha0 ht0 hu1
      have qr0 := R0.out
      go_wp2_with fail
      go_ret2
      obtain ⟨f1, f2⟩ := knuth_end (N := hi * 18446744073709551616 + lo) (y := y) (P := 2 ^ s) (Y := Y) (u := u) (t1 := t1) (t0 := t0) (Int.pow_pos (by omega)) (by omega) HYs.out HU.out
      refine ⟨?_, Below.refl _ _⟩
      have e1 : (u * 4294967296 + t1) / Y = Q1 := by rw [HY.out]; exact HQ1.out
      rw [e1] at f1 f2
      rw [← HR1.out] at f1 f2
      have e0 : (r1 * 4294967296 + t0) / Y = Q0 := by rw [HY.out]; exact HQ0.out
      rw [e0] at f1 f2
      rw [← HR0.out] at f2
      rw [f1, f2]; rfl
end Go.Proofs.YtbjjgnaojoaoiaaGreat
/- the reference's wide numbers: Of, Add. -/
namespace Go.Proofs.YtbjjgnaojoaoiaaGreat
open Go.RowKit Go
set_option linter.unusedSimpArgs false
set_option linter.unusedVariables false
set_option linter.unusedVariables false

/-- 2^128, behind a name. -/
def big : Int := 340282366920938463463374607431768211456
/-- The digit i of a size, base 2^32. -/
def dg : Nat → Int → Int
  | 0, m => m % 4294967296
  | 1, m => m / 4294967296 % 4294967296
  | 2, m => m / 18446744073709551616 % 4294967296
  | _, m => m / 79228162514264337593543950336 % 4294967296
theorem dg_bd (i : Nat) (m : Int) : 0 ≤ dg i m ∧ dg i m ≤ 4294967295 := by
  unfold dg; split <;> omega
@[reducible] def wd (n : Bool) (m : Int) : Value := .agg #[.bool n, .int .u64 (dg 0 m), .int .u64 (dg 1 m), .int .u64 (dg 2 m), .int .u64 (dg 3 m)]
def wz (n : Bool) (m : Int) : Int := if n then -m else m
theorem V_dg {m : Int} (h0 : 0 ≤ m) (h1 : m < big) : V (dg 0 m) (dg 1 m) (dg 2 m) (dg 3 m) = m := by
  unfold big at h1; simp only [V, dg]; omega
theorem dg_V {a0 a1 a2 a3 : Int} (h0 : 0 ≤ a0 ∧ a0 ≤ 4294967295) (h1 : 0 ≤ a1 ∧ a1 ≤ 4294967295) (h2 : 0 ≤ a2 ∧ a2 ≤ 4294967295) (h3 : 0 ≤ a3 ∧ a3 ≤ 4294967295) :
    dg 0 (V a0 a1 a2 a3) = a0 ∧ dg 1 (V a0 a1 a2 a3) = a1 ∧ dg 2 (V a0 a1 a2 a3) = a2 ∧ dg 3 (V a0 a1 a2 a3) = a3 := by
  simp only [V, dg]; omega

theorem d4_V {a0 a1 a2 a3 : Int} {m : Int} (h0 : 0 ≤ a0 ∧ a0 ≤ 4294967295) (h1 : 0 ≤ a1 ∧ a1 ≤ 4294967295) (h2 : 0 ≤ a2 ∧ a2 ≤ 4294967295) (h3 : 0 ≤ a3 ∧ a3 ≤ 4294967295) (h : m = V a0 a1 a2 a3) :
    d4 a0 a1 a2 a3 = d4 (dg 0 m) (dg 1 m) (dg 2 m) (dg 3 m) := by
  obtain ⟨e0, e1, e2, e3⟩ := dg_V h0 h1 h2 h3
  rw [h, e0, e1, e2, e3]

@[reducible] def dm (m : Int) : Value := d4 (dg 0 m) (dg 1 m) (dg 2 m) (dg 3 m)

theorem plusm (a b : Int) (w : World) (ha : 0 ≤ a) (hb : 0 ≤ b) (h : a + b < big) :
    Calls Tryz.prog 56 #[dm a, dm b] w fun e w' => e = .returned (dm (a + b)) ∧ Below w.heap.size w w' := by
  refine (plus_any (dg 0 a) (dg 1 a) (dg 2 a) (dg 3 a) (dg 0 b) (dg 1 b) (dg 2 b) (dg 3 b) w (dg_bd _ _) (dg_bd _ _) (dg_bd _ _) (dg_bd _ _) (dg_bd _ _) (dg_bd _ _) (dg_bd _ _) (dg_bd _ _)).mono ?_
  rintro e w' ⟨rfl, hw⟩
  refine ⟨?_, hw⟩
  have e := d4_V (m := a + b) (a0 := (dg 0 a + dg 0 b) % 4294967296) (a1 := (dg 1 a + dg 1 b + (dg 0 a + dg 0 b) / 4294967296) % 4294967296)
    (a2 := (dg 2 a + dg 2 b + (dg 1 a + dg 1 b + (dg 0 a + dg 0 b) / 4294967296) / 4294967296) % 4294967296) (a3 := (dg 3 a + dg 3 b + (dg 2 a + dg 2 b + (dg 1 a + dg 1 b + (dg 0 a + dg 0 b) / 4294967296) / 4294967296) / 4294967296) % 4294967296)
    (by omega) (by omega) (by omega) (by omega) (by
      have va := V_dg ha (by unfold big at *; omega); have vb := V_dg hb (by unfold big at *; omega)
      have a0 := dg_bd 0 a; have a1 := dg_bd 1 a; have a2 := dg_bd 2 a; have a3 := dg_bd 3 a
      have b0 := dg_bd 0 b; have b1 := dg_bd 1 b; have b2 := dg_bd 2 b; have b3 := dg_bd 3 b
      generalize dg 0 a = x0 at *; generalize dg 1 a = x1 at *; generalize dg 2 a = x2 at *; generalize dg 3 a = x3 at *
      generalize dg 0 b = y0 at *; generalize dg 1 b = y1 at *; generalize dg 2 b = y2 at *; generalize dg 3 b = y3 at *
      unfold big V at *; omega)
  rw [e]

theorem minusm (a b : Int) (w : World) (ha : a < big) (hb : 0 ≤ b) (h : b ≤ a) :
    Calls Tryz.prog 57 #[dm a, dm b] w fun e w' => e = .returned (dm (a - b)) ∧ Below w.heap.size w w' := by
  refine (minus_any (dg 0 a) (dg 1 a) (dg 2 a) (dg 3 a) (dg 0 b) (dg 1 b) (dg 2 b) (dg 3 b) w (dg_bd _ _) (dg_bd _ _) (dg_bd _ _) (dg_bd _ _) (dg_bd _ _) (dg_bd _ _) (dg_bd _ _) (dg_bd _ _)).mono ?_
  rintro e w' ⟨⟨s0, s1, s2, s3, h0, h1, h2, h3, rfl⟩, hw⟩
  refine ⟨?_, hw⟩
  have e := d4_V (m := a - b) (a0 := s0 % 4294967296) (a1 := s1 % 4294967296) (a2 := s2 % 4294967296) (a3 := s3 % 4294967296) (by omega) (by omega) (by omega) (by omega) (by
      have va := V_dg (by omega) ha; have vb := V_dg hb (by unfold big at *; omega)
      have a0 := dg_bd 0 a; have a1 := dg_bd 1 a; have a2 := dg_bd 2 a; have a3 := dg_bd 3 a
      have b0 := dg_bd 0 b; have b1 := dg_bd 1 b; have b2 := dg_bd 2 b; have b3 := dg_bd 3 b
      generalize dg 0 a = x0 at *; generalize dg 1 a = x1 at *; generalize dg 2 a = x2 at *; generalize dg 3 a = x3 at *
      generalize dg 0 b = y0 at *; generalize dg 1 b = y1 at *; generalize dg 2 b = y2 at *; generalize dg 3 b = y3 at *
      unfold big V at *; omega)
  rw [e]

theorem lessm (a b : Int) (w : World) (ha : 0 ≤ a) (hb : 0 ≤ b) (ha' : a < big) (hb' : b < big) :
    Calls Tryz.prog 53 #[dm a, dm b] w fun e w' => e = .returned (.bool (decide (a < b))) ∧ Below w.heap.size w w' := by
  refine (less_any (dg 0 a) (dg 1 a) (dg 2 a) (dg 3 a) (dg 0 b) (dg 1 b) (dg 2 b) (dg 3 b) w (dg_bd _ _) (dg_bd _ _) (dg_bd _ _) (dg_bd _ _) (dg_bd _ _) (dg_bd _ _) (dg_bd _ _) (dg_bd _ _)).mono ?_
  rintro e w' ⟨rfl, hw⟩
  rw [V_dg ha ha', V_dg hb hb']
  exact ⟨rfl, hw⟩

def Wide (z L : Int) (w : World) (e : Ending) (w' : World) : Prop := (∃ n m, e = .returned (wd n m) ∧ 0 ≤ m ∧ m ≤ L ∧ wz n m = z) ∧ Below w.heap.size w w'

theorem dg_small {m : Int} (h0 : 0 ≤ m) (h1 : m ≤ 18446744073709551615) : dg 0 m = m % 4294967296 ∧ dg 1 m = m / 4294967296 ∧ dg 2 m = 0 ∧ dg 3 m = 0 := by
  refine ⟨rfl, ?_, ?_, ?_⟩ <;> simp only [dg] <;> omega
theorem wd_small {n : Bool} {m : Int} (h0 : 0 ≤ m) (h1 : m ≤ 18446744073709551615) : Value.agg #[.bool n, .int .u64 (m % 4294967296), .int .u64 (m / 4294967296), .int .u64 0, .int .u64 0] = wd n m := by
  obtain ⟨e0, e1, e2, e3⟩ := dg_small h0 h1
  rw [wd, e0, e1, e2, e3]

theorem of_any (a : Int) (w : World) (ha : -9223372036854775808 ≤ a ∧ a ≤ 9223372036854775807) :
    Calls Tryz.prog 16 #[.int .i64 a] w fun e w' => e = .returned (wd (decide (a < 0)) a.natAbs) ∧ Below w.heap.size w w' := by
  by_cases h : a < 0
  all_goals
    go_enter Tryz.func16, Tryz.ntmps16
    go_wp2
  · refine bodyPost_ret (v := .agg #[.bool true, .int .u64 ((-(a + 1) + 1) % 4294967296), .int .u64 ((-(a + 1) + 1) / 4294967296), .int .u64 0, .int .u64 0]) (by simp [results, Tryz.results16, go_sem]) rfl ⟨?_, (by repeat' (first | (with_reducible exact Below.refl _ _) | (with_reducible refine Below.alloc ?_ ?_ _) | (with_reducible refine below_drewN ?_ _) | (with_reducible refine Below.drew ?_) | (with_reducible refine Below.setCell ?_ ?_ _) | (with_reducible refine Below.trans ?_ (Below.mono HW0.out ?_)) | (with_reducible refine Below.trans ?_ (Below.mono HW1.out ?_)) | (with_reducible refine Below.trans ?_ (Below.mono HW2.out ?_)) | (with_reducible refine Below.trans ?_ (Below.mono HW3.out ?_)) | (with_reducible refine Below.trans ?_ (Below.mono HW4.out ?_)) | (with_reducible refine Below.trans ?_ (Below.mono HW5.out ?_)) | (with_reducible refine Below.trans ?_ (Below.mono HW6.out ?_)) | (with_reducible refine Below.trans ?_ (Below.mono HW7.out ?_)) | (with_reducible exact Nat.le_refl _) | omega | (simp only [World.size_alloc, World.size_setCell, World.size_drew, size_drewN]; omega) | (simp; done) | (simp; omega)))⟩
    rw [wd_small (by omega) (by omega), decide_eq_true h, show (a.natAbs : Int) = -(a + 1) + 1 by omega]
  · refine bodyPost_ret (v := .agg #[.bool false, .int .u64 (a % 4294967296), .int .u64 (a / 4294967296), .int .u64 0, .int .u64 0]) (by simp [results, Tryz.results16, go_sem]) rfl ⟨?_, (by repeat' (first | (with_reducible exact Below.refl _ _) | (with_reducible refine Below.alloc ?_ ?_ _) | (with_reducible refine below_drewN ?_ _) | (with_reducible refine Below.drew ?_) | (with_reducible refine Below.setCell ?_ ?_ _) | (with_reducible refine Below.trans ?_ (Below.mono HW0.out ?_)) | (with_reducible refine Below.trans ?_ (Below.mono HW1.out ?_)) | (with_reducible refine Below.trans ?_ (Below.mono HW2.out ?_)) | (with_reducible refine Below.trans ?_ (Below.mono HW3.out ?_)) | (with_reducible refine Below.trans ?_ (Below.mono HW4.out ?_)) | (with_reducible refine Below.trans ?_ (Below.mono HW5.out ?_)) | (with_reducible refine Below.trans ?_ (Below.mono HW6.out ?_)) | (with_reducible refine Below.trans ?_ (Below.mono HW7.out ?_)) | (with_reducible exact Nat.le_refl _) | omega | (simp only [World.size_alloc, World.size_setCell, World.size_drew, size_drewN]; omega) | (simp; done) | (simp; omega)))⟩
    rw [wd_small (by omega) (by omega), decide_eq_false (by omega), show (a.natAbs : Int) = a by omega]

theorem wide_ret {z L : Int} {w w' : World} {n : Bool} {m : Int} (h0 : 0 ≤ m) (h1 : m ≤ L) (h : wz n m = z) (hb : Below w.heap.size w w') : Wide z L w (.returned (wd n m)) w' := ⟨⟨n, m, rfl, h0, h1, h⟩, hb⟩
theorem bcell {W w1 : World} (hb : Below W.heap.size W w1) : (∀ b o, b < W.heap.size → w1.cell? ⟨b, o, none⟩ = W.cell? ⟨b, o, none⟩) ∧ (∀ b o, b < W.heap.size → w1.frozen? ⟨b, o, none⟩ = W.frozen? ⟨b, o, none⟩) :=
  ⟨fun b o h => hb.cell (p := ⟨b, o, none⟩) h, fun b o h => hb.frozen (p := ⟨b, o, none⟩) h⟩
theorem below3 {w w' : World} {a b c : Obj} (h : Below (((w.alloc a).alloc b).alloc c).heap.size (((w.alloc a).alloc b).alloc c) w') : Below w.heap.size w w' :=
  ((((Below.refl _ _).alloc (Nat.le_refl _) _).alloc (by simp) _).alloc (by simp; omega) _).trans (h.mono (by simp; omega))

theorem below_sub {N : Nat} {W w1 w2 : World} (h : ∀ b o, b < N → w1.cell? ⟨b, o, none⟩ = W.cell? ⟨b, o, none⟩) (hb : Below w1.heap.size w1 w2) (hN : N ≤ w1.heap.size) : ∀ b o, b < N → w2.cell? ⟨b, o, none⟩ = W.cell? ⟨b, o, none⟩ :=
  fun b o hbo => (hb.cell (p := ⟨b, o, none⟩) (Nat.lt_of_lt_of_le hbo hN)).trans (h b o hbo)
theorem cells5 {w1 w2 : World} {v0 v1 v2 v3 v4 : Value} {t g : Nat} (h : w1.heap[g]? = some (.cells #[v0, v1, v2, v3, v4] t (0, 0))) (hb : Below w1.heap.size w1 w2) :
    w2.cell? ⟨g, 0, none⟩ = some v0 ∧ w2.cell? ⟨g, 1, none⟩ = some v1 ∧ w2.cell? ⟨g, 2, none⟩ = some v2 ∧ w2.cell? ⟨g, 3, none⟩ = some v3 ∧ w2.cell? ⟨g, 4, none⟩ = some v4 ∧ ∀ i, w2.frozen? ⟨g, i, none⟩ = false := by
  have hg : g < w1.heap.size := by
    rcases Nat.lt_or_ge g w1.heap.size with h1 | h1
    · exact h1
    · rw [Array.getElem?_eq_none h1] at h; cases h
  have h2 := (hb.block g hg).trans h
  simp [World.cell?, World.frozen?, h2]

theorem heap3 (w : World) (a b c : Obj) : (((w.alloc a).alloc b).alloc c).drew.heap[w.heap.size + 1 + 1]? = some c := by
  show ((((w.heap.push a).push b).push c))[w.heap.size + 1 + 1]? = some c
  rw [show w.heap.size + 1 + 1 = ((w.heap.push a).push b).size by simp, Array.getElem?_push_size]
theorem drew_keep (N : Nat) (W : World) : ∀ b o, b < N → W.drew.cell? ⟨b, o, none⟩ = W.cell? ⟨b, o, none⟩ := fun _ _ _ => rfl
theorem set_keep {N : Nat} {W w1 : World} (h : ∀ b o, b < N → w1.cell? ⟨b, o, none⟩ = W.cell? ⟨b, o, none⟩) {p : Addr} (hp : N ≤ p.block) (u : Value) : ∀ b o, b < N → (w1.setCell p u).cell? ⟨b, o, none⟩ = W.cell? ⟨b, o, none⟩ :=
  fun b o hb => (World.cell?_setCell_other _ _ _ _ (by rintro rfl; exact absurd hb (Nat.not_lt.2 hp))).trans (h b o hb)
theorem set5_keep {N g : Nat} {W w1 : World} (h : ∀ b o, b < N → w1.cell? ⟨b, o, none⟩ = W.cell? ⟨b, o, none⟩) (hp : N ≤ g) (v0 v1 v2 v3 v4 : Value) :
    ∀ b o, b < N → (((((w1.setCell ⟨g, 0, none⟩ v0).setCell ⟨g, 1, none⟩ v1).setCell ⟨g, 2, none⟩ v2).setCell ⟨g, 3, none⟩ v3).setCell ⟨g, 4, none⟩ v4).cell? ⟨b, o, none⟩ = W.cell? ⟨b, o, none⟩ :=
  set_keep (set_keep (set_keep (set_keep (set_keep h (p := ⟨g, 0, none⟩) hp _) (p := ⟨g, 1, none⟩) hp _) (p := ⟨g, 2, none⟩) hp _) (p := ⟨g, 3, none⟩) hp _) (p := ⟨g, 4, none⟩) hp _

theorem wz_same {n1 n2 : Bool} {a b : Int} (h : (n1 == n2) = true) : wz n1 (a + b) = wz n1 a + wz n2 b := by
  have : n1 = n2 := by simpa using h
  subst this; cases n1 <;> simp [wz] <;> omega
theorem wz_other {n1 n2 : Bool} {a b : Int} (h : ¬ (n1 == n2) = true) : wz n2 (b - a) = wz n1 a + wz n2 b ∧ wz n1 (a - b) = wz n1 a + wz n2 b := by
  cases n1 <;> cases n2 <;> simp [wz] at * <;> omega
theorem wide_ret' {w w1 w2 : World} {z L : Int} {n : Bool} {m : Int} (hb : Below w.heap.size w w2) (h0 : 0 ≤ m) (h1 : m ≤ L) (h : wz n m = z) (v : Value) (hv : v = wd n m) : Wide z L w (.returned v) w2 := by
  subst hv; exact ⟨⟨n, m, rfl, h0, h1, h⟩, hb⟩

theorem keep_drew {N : Nat} {W w1 : World} (h : ∀ b o, b < N → w1.cell? ⟨b, o, none⟩ = W.cell? ⟨b, o, none⟩) : ∀ b o, b < N → w1.drew.cell? ⟨b, o, none⟩ = W.cell? ⟨b, o, none⟩ := h
theorem below3d {w w' : World} {a b c : Obj} (h : Below (((w.alloc a).alloc b).alloc c).drew.heap.size (((w.alloc a).alloc b).alloc c).drew w') : Below w.heap.size w w' :=
  below3 (a := a) (b := b) (c := c) ((Below.refl _ _).drew.trans h)
theorem below3t {w w1 w2 : World} {a b c : Obj} (h1 : Below (((w.alloc a).alloc b).alloc c).heap.size (((w.alloc a).alloc b).alloc c) w1) (h : Below w1.drew.heap.size w1.drew w2) : Below w.heap.size w w2 :=
  (below3 h1).trans (((Below.refl _ _).drew.trans h).mono (Nat.le_trans (by simp; omega) h1.size))

set_option maxHeartbeats 800000 in
set_option maxRecDepth 100000 in
theorem wadd_any (n1 n2 : Bool) (a b : Int) (w : World) (ha : 0 ≤ a) (hb : 0 ≤ b) (h : a + b < big) :
    Calls Tryz.prog 23 #[wd n1 a, wd n2 b] w (Wide (wz n1 a + wz n2 b) (a + b) w) := by
  by_cases hn : (n1 == n2) = true
  · have HN := Lib.hid hn
    go_enter Tryz.func23, Tryz.ntmps23
    go_wp2
    have HS0 : ∀ b' o, b' < w.heap.size + 1 + 1 → (((w.alloc (.cells #[.bool n1, .int .u64 (dg 0 a), .int .u64 (dg 1 a), .int .u64 (dg 2 a), .int .u64 (dg 3 a)] 47)).alloc (.cells #[.bool n2, .int .u64 (dg 0 b), .int .u64 (dg 1 b), .int .u64 (dg 2 b), .int .u64 (dg 3 b)] 47)).alloc (.cells #[.bool false, .int .u64 0, .int .u64 0, .int .u64 0, .int .u64 0] 47)).cell? ⟨b', o, none⟩ = (((w.alloc (.cells #[.bool n1, .int .u64 (dg 0 a), .int .u64 (dg 1 a), .int .u64 (dg 2 a), .int .u64 (dg 3 a)] 47)).alloc (.cells #[.bool n2, .int .u64 (dg 0 b), .int .u64 (dg 1 b), .int .u64 (dg 2 b), .int .u64 (dg 3 b)] 47)).alloc (.cells #[.bool false, .int .u64 0, .int .u64 0, .int .u64 0, .int .u64 0] 47)).cell? ⟨b', o, none⟩ := fun _ _ _ => rfl
    have hsz : w.heap.size + 1 + 1 ≤ (((w.alloc (.cells #[.bool n1, .int .u64 (dg 0 a), .int .u64 (dg 1 a), .int .u64 (dg 2 a), .int .u64 (dg 3 a)] 47)).alloc (.cells #[.bool n2, .int .u64 (dg 0 b), .int .u64 (dg 1 b), .int .u64 (dg 2 b), .int .u64 (dg 3 b)] 47)).alloc (.cells #[.bool false, .int .u64 0, .int .u64 0, .int .u64 0, .int .u64 0] 47)).drew.heap.size := by simp
    have H3 := Lib.hid (heap3 w (.cells #[.bool n1, .int .u64 (dg 0 a), .int .u64 (dg 1 a), .int .u64 (dg 2 a), .int .u64 (dg 3 a)] 47) (.cells #[.bool n2, .int .u64 (dg 0 b), .int .u64 (dg 1 b), .int .u64 (dg 2 b), .int .u64 (dg 3 b)] 47) (.cells #[.bool false, .int .u64 0, .int .u64 0, .int .u64 0, .int .u64 0] 47))
    go_region_held3 (fun w' => ∀ b' o, b' < w.heap.size + 1 + 1 → w'.cell? ⟨b', o, none⟩ = (((w.alloc (.cells #[.bool n1, .int .u64 (dg 0 a), .int .u64 (dg 1 a), .int .u64 (dg 2 a), .int .u64 (dg 3 a)] 47)).alloc (.cells #[.bool n2, .int .u64 (dg 0 b), .int .u64 (dg 1 b), .int .u64 (dg 2 b), .int .u64 (dg 3 b)] 47)).alloc (.cells #[.bool false, .int .u64 0, .int .u64 0, .int .u64 0, .int .u64 0] 47)).cell? ⟨b', o, none⟩)
      ((first | (with_reducible exact keep_drew HS0) | (with_reducible exact HS) | (with_reducible refine set5_keep HS ?_ _ _ _ _ _; exact Nat.le_refl _)))
      ((go_at_call 56; refine (plusm a b _ ha hb h).mono ?_; rintro e w' ⟨rfl, hb1⟩; have HS := below_sub (by assumption) hb1 hsz; obtain ⟨c0, c1, c2, c3, c4, c5⟩ := cells5 H3.out hb1; have HB := Lib.hid hb1; clear hb1))
    go_wp2
    refine bodyPost_ret (v := wd n1 (a + b)) (by simp [results, Tryz.results23, go_sem, c0, c1, c2, c3, c4]) rfl ?_
    refine wide_ret (by omega) (by omega) (wz_same HN.out) ?_
    have hb1 := HB.out
    exact ((((((below3d hb1).setCell (by show w.heap.size ≤ w.heap.size + 1 + 1; omega) _).setCell (by show w.heap.size ≤ w.heap.size + 1 + 1; omega) _).setCell (by show w.heap.size ≤ w.heap.size + 1 + 1; omega) _).setCell (by show w.heap.size ≤ w.heap.size + 1 + 1; omega) _).setCell (by show w.heap.size ≤ w.heap.size + 1 + 1; omega) _)
  · have HN := Lib.hid hn
    rw [Bool.not_eq_true] at hn
    by_cases hl : a < b
    · go_enter Tryz.func23, Tryz.ntmps23
      go_wp2_with (go_at_call 53; refine (lessm a b _ ha hb (by omega) (by omega)).mono ?_; rintro e w1 ⟨rfl, hb0⟩; have HS0 := below_sub (N := w.heap.size + 1 + 1) (fun _ _ _ => rfl) hb0 (by simp); have hsz := Nat.le_trans (show w.heap.size + 1 + 1 + 1 ≤ _ by simp) hb0.size; have H3 := Lib.hid ((hb0.block (w.heap.size + 1 + 1) (by simp)).trans (heap3 _ _ _ _)); have HB0 := Lib.hid hb0; clear hb0)
      go_region_held3 (fun w' => ∀ b' o, b' < w.heap.size + 1 + 1 → w'.cell? ⟨b', o, none⟩ = (((w.alloc (.cells #[.bool n1, .int .u64 (dg 0 a), .int .u64 (dg 1 a), .int .u64 (dg 2 a), .int .u64 (dg 3 a)] 47)).alloc (.cells #[.bool n2, .int .u64 (dg 0 b), .int .u64 (dg 1 b), .int .u64 (dg 2 b), .int .u64 (dg 3 b)] 47)).alloc (.cells #[.bool false, .int .u64 0, .int .u64 0, .int .u64 0, .int .u64 0] 47)).cell? ⟨b', o, none⟩)
      ((first | (with_reducible exact keep_drew HS0) | (with_reducible exact HS) | (with_reducible refine set5_keep HS ?_ _ _ _ _ _; exact Nat.le_refl _)))
      ((go_at_call 57; refine (minusm b a _ (by omega) ha (by omega)).mono ?_; rintro e w' ⟨rfl, hb1⟩; have HS := below_sub (by assumption) hb1 (Nat.le_of_succ_le hsz); obtain ⟨c0, c1, c2, c3, c4, c5⟩ := cells5 (show w1.drew.heap[w.heap.size + 1 + 1]? = _ from H3.out) hb1; have HB := Lib.hid hb1; clear hb1))
      go_wp2
      refine bodyPost_ret (v := wd n2 (b - a)) (by simp [results, Tryz.results23, go_sem, c0, c1, c2, c3, c4]) rfl ?_
      refine wide_ret (by omega) (by omega) (wz_other HN.out).1 ?_
      have hb1 := HB.out
      exact ((((((below3t HB0.out hb1).setCell (by show w.heap.size ≤ w.heap.size + 1 + 1; omega) _).setCell (by show w.heap.size ≤ w.heap.size + 1 + 1; omega) _).setCell (by show w.heap.size ≤ w.heap.size + 1 + 1; omega) _).setCell (by show w.heap.size ≤ w.heap.size + 1 + 1; omega) _).setCell (by show w.heap.size ≤ w.heap.size + 1 + 1; omega) _)
    · go_enter Tryz.func23, Tryz.ntmps23
      go_wp2_with (go_at_call 53; refine (lessm a b _ ha hb (by omega) (by omega)).mono ?_; rintro e w1 ⟨rfl, hb0⟩; have HS0 := below_sub (N := w.heap.size + 1 + 1) (fun _ _ _ => rfl) hb0 (by simp); have hsz := Nat.le_trans (show w.heap.size + 1 + 1 + 1 ≤ _ by simp) hb0.size; have H3 := Lib.hid ((hb0.block (w.heap.size + 1 + 1) (by simp)).trans (heap3 _ _ _ _)); have HB0 := Lib.hid hb0; clear hb0)
      go_region_held3 (fun w' => ∀ b' o, b' < w.heap.size + 1 + 1 → w'.cell? ⟨b', o, none⟩ = (((w.alloc (.cells #[.bool n1, .int .u64 (dg 0 a), .int .u64 (dg 1 a), .int .u64 (dg 2 a), .int .u64 (dg 3 a)] 47)).alloc (.cells #[.bool n2, .int .u64 (dg 0 b), .int .u64 (dg 1 b), .int .u64 (dg 2 b), .int .u64 (dg 3 b)] 47)).alloc (.cells #[.bool false, .int .u64 0, .int .u64 0, .int .u64 0, .int .u64 0] 47)).cell? ⟨b', o, none⟩)
      ((first | (with_reducible exact keep_drew HS0) | (with_reducible exact HS) | (with_reducible refine set5_keep HS ?_ _ _ _ _ _; exact Nat.le_refl _)))
      ((go_at_call 57; refine (minusm a b _ (by omega) hb (by omega)).mono ?_; rintro e w' ⟨rfl, hb1⟩; have HS := below_sub (by assumption) hb1 (Nat.le_of_succ_le hsz); obtain ⟨c0, c1, c2, c3, c4, c5⟩ := cells5 (show w1.drew.heap[w.heap.size + 1 + 1]? = _ from H3.out) hb1; have HB := Lib.hid hb1; clear hb1))
      go_wp2
      refine bodyPost_ret (v := wd n1 (a - b)) (by simp [results, Tryz.results23, go_sem, c0, c1, c2, c3, c4]) rfl ?_
      refine wide_ret (by omega) (by omega) (wz_other HN.out).2 ?_
      have hb1 := HB.out
      exact ((((((below3t HB0.out hb1).setCell (by show w.heap.size ≤ w.heap.size + 1 + 1; omega) _).setCell (by show w.heap.size ≤ w.heap.size + 1 + 1; omega) _).setCell (by show w.heap.size ≤ w.heap.size + 1 + 1; omega) _).setCell (by show w.heap.size ≤ w.heap.size + 1 + 1; omega) _).setCell (by show w.heap.size ≤ w.heap.size + 1 + 1; omega) _)
end Go.Proofs.YtbjjgnaojoaoiaaGreat
/- the reference's Told, Is, both, Add, Sub. -/
namespace Go.Proofs.YtbjjgnaojoaoiaaGreat
open Go.RowKit Go
set_option linter.unusedVariables false
set_option linter.unusedSimpArgs false

theorem of_most (w : World) : Calls Tryz.prog 16 #[.int .i64 4611686018427387904] w fun e w' => e = .returned (wd false 4611686018427387904) ∧ Below w.heap.size w w' := of_any 4611686018427387904 w (by omega)

theorem two_low {m : Int} (h0 : 0 ≤ m) (h1 : m ≤ 18446744073709551615) : dg 0 m + dg 1 m * 4294967296 = m := by
  obtain ⟨e0, e1, _, _⟩ := dg_small h0 h1
  rw [e0, e1]; omega
theorem amt_wz_yes {n : Bool} {m : Int} (h0 : 0 ≤ m) (h : m ≤ 4611686018427387904) : amt (wz n m) = true := by
  cases n <;> simp [amt, wz] <;> omega
theorem amt_wz_no {n : Bool} {m : Int} (h0 : 0 ≤ m) (h : 4611686018427387904 < m) : ¬ amt (wz n m) = true := by
  cases n <;> simp [amt, wz] <;> omega

set_option maxHeartbeats 400000 in
set_option maxRecDepth 100000 in
theorem wtold_any (n : Bool) (m : Int) (w : World) (h0 : 0 ≤ m) (h1 : m < big) :
    Calls Tryz.prog 17 #[wd n m] w fun e w' => e = .returned (pr (told (wz n m))) ∧ Below w.heap.size w w' := by
  have hb1 : 4611686018427387904 < big := by unfold big; omega
  by_cases hm : 4611686018427387904 < m
  · go_enter Tryz.func17, Tryz.ntmps17
    go_wp2_with (first
      | (go_at_call 16; refine (of_most _).mono ?_; rintro e w1 ⟨rfl, hw1⟩; obtain ⟨hc1, hf1⟩ := bcell hw1; have hz1 := hw1.size; (try simp only [World.size_alloc, World.size_setCell, World.size_drew, size_drewN, Nat.add_one_le_iff] at hz1); (try have hy1 : w.heap.size < w1.heap.size := by omega); (try have hx1 : w.heap.size + 1 < w1.heap.size := by omega); have HW1 := Lib.hid hw1; clear hw1)
      | (go_at_call 53; refine (lessm 4611686018427387904 m _ (by omega) h0 hb1 h1).mono ?_; rintro e w2 ⟨rfl, hw2⟩; obtain ⟨hc2, hf2⟩ := bcell hw2; have hz2 := hw2.size; (try simp only [World.size_alloc, World.size_setCell, World.size_drew, size_drewN, Nat.add_one_le_iff] at hz2); (try have hy2 : w.heap.size < w2.heap.size := by omega); (try have hx2 : w.heap.size + 1 < w2.heap.size := by omega); have HW2 := Lib.hid hw2; clear hw2))
    go_ret2
    exact ⟨ret_pr (told_no (amt_wz_no h0 hm)), (by repeat' (first | (with_reducible exact Below.refl _ _) | (with_reducible refine Below.alloc ?_ ?_ _) | (with_reducible refine below_drewN ?_ _) | (with_reducible refine Below.drew ?_) | (with_reducible refine Below.setCell ?_ ?_ _) | (with_reducible refine Below.trans ?_ (Below.mono HW0.out ?_)) | (with_reducible refine Below.trans ?_ (Below.mono HW1.out ?_)) | (with_reducible refine Below.trans ?_ (Below.mono HW2.out ?_)) | (with_reducible refine Below.trans ?_ (Below.mono HW3.out ?_)) | (with_reducible refine Below.trans ?_ (Below.mono HW4.out ?_)) | (with_reducible refine Below.trans ?_ (Below.mono HW5.out ?_)) | (with_reducible refine Below.trans ?_ (Below.mono HW6.out ?_)) | (with_reducible refine Below.trans ?_ (Below.mono HW7.out ?_)) | (with_reducible exact Nat.le_refl _) | omega | (simp only [World.size_alloc, World.size_setCell, World.size_drew, size_drewN]; omega) | (simp; done) | (simp; omega)))⟩
  · have hl := two_low h0 (show m ≤ 18446744073709551615 by omega)
    have hd0 := dg_bd 0 m; have hd1 := dg_bd 1 m
    have hb2 : dg 0 m + dg 1 m * 4294967296 ≤ 4611686018427387904 := by omega
    have HL := Lib.hid hl; clear hl
    cases n
    all_goals
      go_enter Tryz.func17, Tryz.ntmps17
      go_wp2_with (first
        | (go_at_call 16; refine (of_most _).mono ?_; rintro e w1 ⟨rfl, hw1⟩; obtain ⟨hc1, hf1⟩ := bcell hw1; have hz1 := hw1.size; (try simp only [World.size_alloc, World.size_setCell, World.size_drew, size_drewN, Nat.add_one_le_iff] at hz1); (try have hy1 : w.heap.size < w1.heap.size := by omega); (try have hx1 : w.heap.size + 1 < w1.heap.size := by omega); have HW1 := Lib.hid hw1; clear hw1)
        | (go_at_call 53; refine (lessm 4611686018427387904 m _ (by omega) h0 hb1 h1).mono ?_; rintro e w2 ⟨rfl, hw2⟩; obtain ⟨hc2, hf2⟩ := bcell hw2; have hz2 := hw2.size; (try simp only [World.size_alloc, World.size_setCell, World.size_drew, size_drewN, Nat.add_one_le_iff] at hz2); (try have hy2 : w.heap.size < w2.heap.size := by omega); (try have hx2 : w.heap.size + 1 < w2.heap.size := by omega); have HW2 := Lib.hid hw2; clear hw2))
      go_ret2
    · exact ⟨ret_pr (by rw [HL.out]; exact told_yes (amt_wz_yes h0 (by omega))), (by repeat' (first | (with_reducible exact Below.refl _ _) | (with_reducible refine Below.alloc ?_ ?_ _) | (with_reducible refine below_drewN ?_ _) | (with_reducible refine Below.drew ?_) | (with_reducible refine Below.setCell ?_ ?_ _) | (with_reducible refine Below.trans ?_ (Below.mono HW0.out ?_)) | (with_reducible refine Below.trans ?_ (Below.mono HW1.out ?_)) | (with_reducible refine Below.trans ?_ (Below.mono HW2.out ?_)) | (with_reducible refine Below.trans ?_ (Below.mono HW3.out ?_)) | (with_reducible refine Below.trans ?_ (Below.mono HW4.out ?_)) | (with_reducible refine Below.trans ?_ (Below.mono HW5.out ?_)) | (with_reducible refine Below.trans ?_ (Below.mono HW6.out ?_)) | (with_reducible refine Below.trans ?_ (Below.mono HW7.out ?_)) | (with_reducible exact Nat.le_refl _) | omega | (simp only [World.size_alloc, World.size_setCell, World.size_drew, size_drewN]; omega) | (simp; done) | (simp; omega)))⟩
    · exact ⟨ret_pr (by rw [HL.out]; exact told_yes (amt_wz_yes h0 (by omega))), (by repeat' (first | (with_reducible exact Below.refl _ _) | (with_reducible refine Below.alloc ?_ ?_ _) | (with_reducible refine below_drewN ?_ _) | (with_reducible refine Below.drew ?_) | (with_reducible refine Below.setCell ?_ ?_ _) | (with_reducible refine Below.trans ?_ (Below.mono HW0.out ?_)) | (with_reducible refine Below.trans ?_ (Below.mono HW1.out ?_)) | (with_reducible refine Below.trans ?_ (Below.mono HW2.out ?_)) | (with_reducible refine Below.trans ?_ (Below.mono HW3.out ?_)) | (with_reducible refine Below.trans ?_ (Below.mono HW4.out ?_)) | (with_reducible refine Below.trans ?_ (Below.mono HW5.out ?_)) | (with_reducible refine Below.trans ?_ (Below.mono HW6.out ?_)) | (with_reducible refine Below.trans ?_ (Below.mono HW7.out ?_)) | (with_reducible exact Nat.le_refl _) | omega | (simp only [World.size_alloc, World.size_setCell, World.size_drew, size_drewN]; omega) | (simp; done) | (simp; omega)))⟩

theorem is_ref (a : Int) (w : World) : Calls Tryz.prog 211 #[.int .i64 a] w fun e w' => e = .returned (.bool (amt a)) ∧ w = w' := by
  by_cases h : amt a = true
  · have h1 := amt_yes h
    have H := Lib.hid h; clear h
    go_enter Tryz.func211, Tryz.ntmps211
    go_wp2
    go_ret
    exact ⟨ret_bool H.out.symm, rfl⟩
  · have h1 := amt_no h
    have H := Lib.hid h; clear h
    rcases h1 with h1 | h1
    all_goals
      go_enter Tryz.func211, Tryz.ntmps211
      go_wp2
      all_goals go_ret
      all_goals have e := Bool.eq_false_iff.2 H.out
      all_goals exact ⟨ret_bool (by first | (rw [e]; done) | (rw [e]; simp; omega)), rfl⟩

theorem both_any (a b : Int) (w : World) : Calls Tryz.prog 206 #[.int .i64 a, .int .i64 b] w fun e w' => e = .returned (.bool (amt a && amt b)) ∧ w = w' := by
  by_cases h : amt a = true
  · have H := Lib.hid h
    go_enter Tryz.func206, Tryz.ntmps206
    go_wp2_with fail
    refine (is_ref a _).mono ?_; rintro e w' ⟨rfl, rfl⟩
    rw [h]; clear h
    go_wp2_with fail
    refine (is_ref b _).mono ?_; rintro e w' ⟨rfl, rfl⟩
    go_wp2_with fail
    go_ret
    exact ⟨ret_bool (by rw [H.out]; simp), rfl⟩
  · have H := Lib.hid h
    go_enter Tryz.func206, Tryz.ntmps206
    go_wp2_with fail
    refine (is_ref a _).mono ?_; rintro e w' ⟨rfl, rfl⟩
    rw [Bool.eq_false_iff.2 h]; clear h
    go_wp2_with fail
    go_ret
    exact ⟨ret_bool (by rw [Bool.eq_false_iff.2 H.out]; rfl), rfl⟩

theorem Wide.pre {w0 w' : World} {z L : Int} {e : Ending} (h : Wide z L w0 e w') : ∃ n m, e = .returned (wd n m) ∧ 0 ≤ m ∧ m ≤ L ∧ Hid (wz n m = z) ∧ Below w0.heap.size w0 w' := by
  obtain ⟨⟨n, m, h1, h2, h3, h4⟩, h5⟩ := h
  exact ⟨n, m, h1, h2, h3, h4, h5⟩
theorem amt_abs {a : Int} (h : amt a = true) : (a.natAbs : Int) ≤ 4611686018427387904 := by have := amt_yes h; omega
theorem wz_of (a : Int) : wz (decide (a < 0)) a.natAbs = a := by
  by_cases h : a < 0 <;> simp [wz, h] <;> omega

theorem wz_neg (a : Int) : wz (decide (0 < a)) a.natAbs = -a := by
  by_cases h : 0 < a <;> simp [wz, h] <;> omega

set_option maxHeartbeats 400000 in
set_option maxRecDepth 100000 in
theorem radd_any (a b : Int) (w : World) : Calls Tryz.prog 193 #[.int .i64 a, .int .i64 b] w fun e w' => e = .returned (pr (addS a b)) ∧ Below w.heap.size w w' := by
  by_cases h : (amt a && amt b) = true
  · have ha := amt_abs (a := a) (by simp at h; exact h.1)
    have hb := amt_abs (a := b) (by simp at h; exact h.2)
    have H := Lib.hid h
    go_enter Tryz.func193, Tryz.ntmps193
    go_wp2_with fail
    refine (both_any a b _).mono ?_; rintro e w' ⟨rfl, rfl⟩
    rw [h]; clear h
    go_wp2_with fail
    refine (of_any a _ (by omega)).mono ?_; rintro e w1 ⟨rfl, hw1⟩; obtain ⟨hc1, hf1⟩ := bcell hw1; have hz1 := hw1.size; (try simp only [World.size_alloc, World.size_setCell, World.size_drew, size_drewN, Nat.add_one_le_iff] at hz1); (try have hy1 : w.heap.size < w1.heap.size := by omega); (try have hx1 : w.heap.size + 1 < w1.heap.size := by omega); have HW1 := Lib.hid hw1; clear hw1
    go_wp2_with fail
    refine (of_any b _ (by omega)).mono ?_; rintro e w2 ⟨rfl, hw2⟩; obtain ⟨hc2, hf2⟩ := bcell hw2; have hz2 := hw2.size; (try simp only [World.size_alloc, World.size_setCell, World.size_drew, size_drewN, Nat.add_one_le_iff] at hz2); (try have hy2 : w.heap.size < w2.heap.size := by omega); (try have hx2 : w.heap.size + 1 < w2.heap.size := by omega); have HW2 := Lib.hid hw2; clear hw2
    go_wp2_with fail
    refine (wadd_any _ _ _ _ _ (by omega) (by omega) (by unfold big; omega)).mono ?_
    intro e w3 h3; obtain ⟨n, m, rfl, hm0, hm1, hz, hw3⟩ := Wide.pre h3; clear h3; obtain ⟨hc3, hf3⟩ := bcell hw3; have hz3 := hw3.size; (try simp only [World.size_alloc, World.size_setCell, World.size_drew, size_drewN, Nat.add_one_le_iff] at hz3); (try have hy3 : w.heap.size < w3.heap.size := by omega); (try have hx3 : w.heap.size + 1 < w3.heap.size := by omega); have HW3 := Lib.hid hw3; clear hw3
    go_wp2_with fail
    refine (wtold_any n m _ hm0 (by unfold big; omega)).mono ?_; rintro e w4 ⟨rfl, hw4⟩; obtain ⟨hc4, hf4⟩ := bcell hw4; have hz4 := hw4.size; (try simp only [World.size_alloc, World.size_setCell, World.size_drew, size_drewN, Nat.add_one_le_iff] at hz4); (try have hy4 : w.heap.size < w4.heap.size := by omega); (try have hx4 : w.heap.size + 1 < w4.heap.size := by omega); have HW4 := Lib.hid hw4; clear hw4
    go_wp2_with fail
    go_ret2
    refine ⟨ret_pr ?_, (by repeat' (first | (with_reducible exact Below.refl _ _) | (with_reducible refine Below.alloc ?_ ?_ _) | (with_reducible refine below_drewN ?_ _) | (with_reducible refine Below.drew ?_) | (with_reducible refine Below.setCell ?_ ?_ _) | (with_reducible refine Below.trans ?_ (Below.mono HW0.out ?_)) | (with_reducible refine Below.trans ?_ (Below.mono HW1.out ?_)) | (with_reducible refine Below.trans ?_ (Below.mono HW2.out ?_)) | (with_reducible refine Below.trans ?_ (Below.mono HW3.out ?_)) | (with_reducible refine Below.trans ?_ (Below.mono HW4.out ?_)) | (with_reducible refine Below.trans ?_ (Below.mono HW5.out ?_)) | (with_reducible refine Below.trans ?_ (Below.mono HW6.out ?_)) | (with_reducible refine Below.trans ?_ (Below.mono HW7.out ?_)) | (with_reducible exact Nat.le_refl _) | omega | (simp only [World.size_alloc, World.size_setCell, World.size_drew, size_drewN]; omega) | (simp; done) | (simp; omega)))⟩
    rw [hz.out, wz_of, wz_of, addS, if_pos H.out]
  · have H := Lib.hid h
    go_enter Tryz.func193, Tryz.ntmps193
    go_wp2_with fail
    refine (both_any a b _).mono ?_; rintro e w' ⟨rfl, rfl⟩
    rw [Bool.eq_false_iff.2 h]; clear h
    go_wp2_with fail
    go_ret2
    exact ⟨ret_pr (add_no H.out), (by repeat' (first | (with_reducible exact Below.refl _ _) | (with_reducible refine Below.alloc ?_ ?_ _) | (with_reducible refine below_drewN ?_ _) | (with_reducible refine Below.drew ?_) | (with_reducible refine Below.setCell ?_ ?_ _) | (with_reducible refine Below.trans ?_ (Below.mono HW0.out ?_)) | (with_reducible refine Below.trans ?_ (Below.mono HW1.out ?_)) | (with_reducible refine Below.trans ?_ (Below.mono HW2.out ?_)) | (with_reducible refine Below.trans ?_ (Below.mono HW3.out ?_)) | (with_reducible refine Below.trans ?_ (Below.mono HW4.out ?_)) | (with_reducible refine Below.trans ?_ (Below.mono HW5.out ?_)) | (with_reducible refine Below.trans ?_ (Below.mono HW6.out ?_)) | (with_reducible refine Below.trans ?_ (Below.mono HW7.out ?_)) | (with_reducible exact Nat.le_refl _) | omega | (simp only [World.size_alloc, World.size_setCell, World.size_drew, size_drewN]; omega) | (simp; done) | (simp; omega)))⟩
theorem blk5 {w1 : World} {v0 v1 v2 v3 v4 : Value} {t g : Nat} (h : w1.heap[g]? = some (.cells #[v0, v1, v2, v3, v4] t (0, 0))) :
    w1.cell? ⟨g, 0, none⟩ = some v0 ∧ w1.cell? ⟨g, 1, none⟩ = some v1 ∧ w1.cell? ⟨g, 2, none⟩ = some v2 ∧ w1.cell? ⟨g, 3, none⟩ = some v3 ∧ w1.cell? ⟨g, 4, none⟩ = some v4 ∧ ∀ i, w1.frozen? ⟨g, i, none⟩ = false := by
  simp [World.cell?, World.frozen?, h]
theorem set5_blk {w1 : World} {v0 v1 v2 v3 v4 : Value} {t g : Nat} (h : w1.heap[g]? = some (.cells #[v0, v1, v2, v3, v4] t (0, 0))) (u0 u1 u2 u3 u4 : Value) :
    (((((w1.setCell ⟨g, 0, none⟩ u0).setCell ⟨g, 1, none⟩ u1).setCell ⟨g, 2, none⟩ u2).setCell ⟨g, 3, none⟩ u3).setCell ⟨g, 4, none⟩ u4).heap[g]? = some (.cells #[u0, u1, u2, u3, u4] t (0, 0)) := by
  simp [World.setCell, Array.getElem?_modify, h]
theorem sum_snoc (zs : List Int) (k : Nat) (h : k < zs.length) : (zs.take (k + 1)).sum = (zs.take k).sum + zs[k] := by
  rw [List.take_succ_eq_append_getElem h, List.sum_append, List.sum_cons, List.sum_nil, Int.add_zero]

/-- Behind k rounds of Sum. -/
def SumAt (zs : List Int) (w : World) (t : Nat) (i : Value) (wr : World) : Prop := ∃ (k : Nat) (n : Bool) (m : Int), k ≤ zs.length ∧ i = .int .i64 k ∧
  Hid (wr.heap[w.heap.size]? = some (.cells #[.bool n, .int .u64 (dg 0 m), .int .u64 (dg 1 m), .int .u64 (dg 2 m), .int .u64 (dg 3 m)] t (0, 0))) ∧ 0 ≤ m ∧ m ≤ k * 4611686018427387904 ∧
  Hid (wz n m = (zs.take k).sum) ∧ Hid ((zs.take k).all amt = true) ∧ Below w.heap.size w wr ∧ w.heap.size < wr.heap.size

end Go.Proofs.YtbjjgnaojoaoiaaGreat
/- num's size, divided, MulDiv. -/
namespace Go.Proofs.YtbjjgnaojoaoiaaGreat
open Go.RowKit Go
set_option linter.unusedVariables false
set_option linter.unusedSimpArgs false

theorem div64_zero (lo y : Int) (w : World) (h1 : 1 ≤ y) (hl0 : 0 ≤ lo) (hl1 : lo ≤ 18446744073709551615) (hy : y ≤ 4611686018427387904) :
    Calls Tryz.prog 178 #[.int .u64 0, .int .u64 lo, .int .u64 y] w fun e w' => e = .returned (.tuple #[.int .u64 (lo / y), .int .u64 (lo % y)]) ∧ Below w.heap.size w w' := by
  have hy0 : (y == 0) = false := by simp; omega
  go_enter Tryz.func178, Tryz.ntmps178
  go_wp2_with fail
  go_quiet (fail)
  go_wp2_with fail
  go_ret2
  exact ⟨rfl, (by repeat' (first | (with_reducible exact Below.refl _ _) | (with_reducible refine Below.alloc ?_ ?_ _) | (with_reducible refine below_drewN ?_ _) | (with_reducible refine Below.drew ?_) | (with_reducible refine Below.setCell ?_ ?_ _) | (with_reducible refine Below.trans ?_ (Below.mono HW0.out ?_)) | (with_reducible refine Below.trans ?_ (Below.mono HW1.out ?_)) | (with_reducible refine Below.trans ?_ (Below.mono HW2.out ?_)) | (with_reducible refine Below.trans ?_ (Below.mono HW3.out ?_)) | (with_reducible refine Below.trans ?_ (Below.mono HW4.out ?_)) | (with_reducible refine Below.trans ?_ (Below.mono HW5.out ?_)) | (with_reducible refine Below.trans ?_ (Below.mono HW6.out ?_)) | (with_reducible refine Below.trans ?_ (Below.mono HW7.out ?_)) | (with_reducible exact Nat.le_refl _) | omega | (simp only [World.size_alloc, World.size_setCell, World.size_drew, size_drewN]; omega) | (simp; done) | (simp; omega)))⟩

theorem div64_ex (hi lo c : Int) (h0 : 0 ≤ hi) (h1 : hi < c) (hl0 : 0 ≤ lo) (hl1 : lo ≤ 18446744073709551615) (hc : c ≤ 4611686018427387904) :
    ∃ q r : Int, 0 ≤ q ∧ q ≤ 18446744073709551615 ∧ 0 ≤ r ∧ r < c ∧ Hid (hi * 18446744073709551616 + lo = q * c + r) ∧
      ∀ w, Calls Tryz.prog 178 #[.int .u64 hi, .int .u64 lo, .int .u64 c] w fun e w' => e = .returned (.tuple #[.int .u64 q, .int .u64 r]) ∧ Below w.heap.size w w' := by
  refine ⟨(hi * 18446744073709551616 + lo) / c, (hi * 18446744073709551616 + lo) % c, Int.ediv_nonneg (by omega) (by omega), ?_, Int.emod_nonneg _ (by omega), Int.emod_lt_of_pos _ (by omega), ?_, fun w => ?_⟩
  · refine Int.le_of_lt_add_one ((Int.ediv_lt_iff_lt_mul (by omega)).2 ?_)
    have : (18446744073709551615 + 1 : Int) * c = c * 18446744073709551616 := Int.mul_comm _ _
    omega
  · show _ = _
    have := Int.mul_ediv_add_emod (hi * 18446744073709551616 + lo) c
    rw [Int.mul_comm c] at this; exact this.symm
  · by_cases h : hi = 0
    · subst h
      have e : (0 * 18446744073709551616 + lo) = lo := by omega
      rw [e]; exact div64_zero lo c w (by omega) hl0 hl1 hc
    · exact div64_any hi lo c w (by omega) h1 hl0 hl1 hc

theorem size_any (a : Int) (w : World) (ha : -4611686018427387904 ≤ a ∧ a ≤ 4611686018427387904) :
    Calls Tryz.prog 176 #[.int .i64 a] w fun e w' => e = .returned (.tuple #[.int .u64 (if a < 0 then -a else a), .bool (decide (a < 0))]) ∧ w = w' := by
  by_cases h : a < 0
  · rw [if_pos h, decide_eq_true h]
    have e : IntKind.u64.wrap (-IntKind.u64.wrap a) = -a := by
      have wr : ∀ z : Int, IntKind.u64.wrap z = z % 18446744073709551616 := fun z => by simp [IntKind.wrap, IntKind.bits, IntKind.signed]
      rw [wr, wr]; omega
    go_enter Tryz.func176, Tryz.ntmps176
    go_wp2_with fail
    go_ret2
    exact ⟨by first | rfl | (rw [e]), rfl⟩
  · rw [if_neg h, decide_eq_false h]
    go_enter Tryz.func176, Tryz.ntmps176
    go_wp2_with fail
    go_ret2
    exact ⟨rfl, rfl⟩

theorem mul64_ex (x y : Int) (hx : 0 ≤ x ∧ x ≤ 4611686018427387904) (hy : 0 ≤ y ∧ y ≤ 4611686018427387904) :
    ∃ hi lo : Int, 0 ≤ hi ∧ hi ≤ 4611686018427387904 ∧ 0 ≤ lo ∧ lo ≤ 18446744073709551615 ∧ Hid (x * y = hi * 18446744073709551616 + lo) ∧
      ∀ w, Calls Tryz.prog 177 #[.int .u64 x, .int .u64 y] w fun e w' => e = .returned (.tuple #[.int .u64 hi, .int .u64 lo]) ∧ w = w' := by
  obtain ⟨X, rfl⟩ := Int.eq_ofNat_of_zero_le hx.1
  obtain ⟨Y, rfl⟩ := Int.eq_ofNat_of_zero_le hy.1
  have hb : X * Y ≤ 4611686018427387904 * 4611686018427387904 := Nat.mul_le_mul (by omega) (by omega)
  have e : (X : Int) * Y = ((X * Y : Nat) : Int) := by simp
  refine ⟨_, _, ?_, ?_, ?_, ?_, ?_, fun w => (Tryz.bits_Mul64 X Y (by omega) (by omega) w).mono fun _ _ h => ⟨h.1, h.2.symm⟩⟩
  · omega
  · omega
  · omega
  · omega
  · show _ = _; rw [e]; omega

def divS (a b c : Int) : Int × Int × Int := if amt (a * b / c) then (a * b / c, a * b % c, 0) else (0, 0, 2)
@[reducible] def tr (p : Int × Int × Int) : Value := .tuple #[.int .i64 p.1, .int .i64 p.2.1, .int .i64 p.2.2]
theorem ret_tr {a b c : Int} {p : Int × Int × Int} (h : p = (a, b, c)) : Ending.returned (.tuple #[.int .i64 a, .int .i64 b, .int .i64 c]) = .returned (tr p) := by rw [h]

/-- A product's floor quotient out of the sizes' one. -/
theorem div_pos_ {p q r c : Int} (h : p = q * c + r) (h0 : 0 ≤ r) (h1 : r < c) : p / c = q ∧ p % c = r := by
  have hc : 0 < c := by omega
  have a := (Int.le_ediv_iff_mul_le hc).2 (show q * c ≤ p by omega)
  have b := (Int.ediv_lt_iff_lt_mul (a := p) (b := q + 1) hc).2 (by rw [Int.add_mul]; omega)
  have e : p / c = q := by omega
  refine ⟨e, ?_⟩
  have := Int.mul_ediv_add_emod p c
  rw [e, Int.mul_comm] at this; omega
theorem div_neg_zero {p q c : Int} (h : -p = q * c) (hc : 0 < c) : p / c = -q ∧ p % c = 0 :=
  div_pos_ (by rw [Int.neg_mul]; omega) (by omega) hc
theorem div_neg_rest {p q r c : Int} (h : -p = q * c + r) (h0 : 0 < r) (h1 : r < c) : p / c = -(q + 1) ∧ p % c = c - r :=
  div_pos_ (by rw [Int.neg_mul, Int.add_mul]; omega) (by omega) (by omega)
theorem div_far {p c hi lo : Int} (hc : 1 ≤ c) (h : p = hi * 18446744073709551616 + lo ∨ -p = hi * 18446744073709551616 + lo) (h0 : 0 ≤ lo) (hi1 : c ≤ hi) : ¬ amt (p / c) = true := by
  rcases h with h | h
  · have a := (Int.le_ediv_iff_mul_le (a := 18446744073709551616) (b := p) (show 0 < c by omega)).2 (by rw [Int.mul_comm]; omega)
    simp [amt]; omega
  · have a := (Int.ediv_lt_iff_lt_mul (a := p) (b := -4611686018427387904) (show 0 < c by omega)).2 (by
      have : (-4611686018427387904 : Int) * c = -(c * 4611686018427387904) := by rw [Int.mul_comm]; omega
      omega)
    simp [amt]; omega
end Go.Proofs.YtbjjgnaojoaoiaaGreat
