/- Laws. -/
import Derived.Test.YtbjjgnaojoaoiaaGreatZZSh
import Derived.Test.YtbjjgnaojoaoiaaGreatZZ0
import Derived.Test.YtbjjgnaojoaoiaaGreatZZ5
import Derived.Deep.DeepCutAuto
import Derived.Deep.CutBlock
namespace Go.Proofs.YtbjjgnaojoaoiaaGreat
open Go.RowKit Go
set_option linter.unusedVariables false
set_option linter.unusedSimpArgs false
set_option maxHeartbeats 1600000
set_option maxRecDepth 100000
theorem bitLen_bd : ∀ (x : Nat), x ≠ 0 → x < 2 ^ 64 → 2 ^ Lib.bitLen x ≤ 2 * x ∧ x < 2 ^ Lib.bitLen x := by
 intro x
 induction x using Nat.strongRecOn with
 | _ x ih =>
   intro h0 h1
   rw [Lib.bitLen_half x h0 h1, Nat.pow_add, Nat.pow_one]
   by_cases h : x / 2 = 0
   · rw [h]
     have : Lib.bitLen 0 = 0 := by decide
     rw [this]; omega
   · have := ih (x / 2) (by omega) h (by omega)
     omega
theorem lz_ex (y : Int) (h0 : 1 ≤ y) (h1 : y ≤ 4611686018427387904) : ∃ s : Nat, 1 ≤ s ∧ s ≤ 63 ∧ (64 - (Lib.bitLen y.toNat : Int)) = s ∧ 9223372036854775808 ≤ y * 2 ^ s ∧ y * 2 ^ s < 18446744073709551616 := by
 obtain ⟨x, rfl⟩ := Int.eq_ofNat_of_zero_le (show 0 ≤ y by omega)
 rw [Int.toNat_natCast]
 obtain ⟨a, b⟩ := bitLen_bd x (by omega) (by omega)
 have hL : Lib.bitLen x ≤ 63 := by
  rcases Nat.lt_or_ge 63 (Lib.bitLen x) with h | h
  · have : 2 ^ 64 ≤ 2 ^ Lib.bitLen x := Nat.pow_le_pow_right (by omega) h
    omega
  · exact h
 have hL1 : 1 ≤ Lib.bitLen x := by
  rcases Nat.eq_zero_or_pos (Lib.bitLen x) with h | h
  · rw [h] at b; omega
  · exact h
 refine ⟨64 - Lib.bitLen x, by omega, by omega, by omega, ?_⟩
 have hp : 2 ^ Lib.bitLen x * 2 ^ (64 - Lib.bitLen x) = 2 ^ 64 := by rw [← Nat.pow_add]; congr 1; omega
 have c1 : 2 ^ 64 ≤ 2 * x * 2 ^ (64 - Lib.bitLen x) := by rw [← hp]; exact Nat.mul_le_mul_right _ a
 have c2 : x * 2 ^ (64 - Lib.bitLen x) < 2 ^ 64 := by rw [← hp]; exact Nat.mul_lt_mul_of_pos_right b (Nat.pow_pos (by omega))
 have e : (x : Int) * 2 ^ (64 - Lib.bitLen x) = ((x * 2 ^ (64 - Lib.bitLen x) : Nat) : Int) := by simp
 rw [e]
 generalize 2 ^ (64 - Lib.bitLen x) = Q at *
 rw [Nat.mul_assoc] at c1
 generalize x * Q = z at *
 omega
theorem or_parts (a b : Int) (s : Nat) (ha : 0 ≤ a) (hb0 : 0 ≤ b) (hb : b < 2 ^ s) (hlt : a * 2 ^ s + b < 18446744073709551616) : bits .or .u64 (a * 2 ^ s) b = a * 2 ^ s + b := by
 obtain ⟨x, rfl⟩ := Int.eq_ofNat_of_zero_le ha
 obtain ⟨z, rfl⟩ := Int.eq_ofNat_of_zero_le hb0
 have e : (x : Int) * 2 ^ s = ((2 ^ s * x : Nat) : Int) := by simp [Int.mul_comm]
 have hb' : z < 2 ^ s := by
  have : ((z : Nat) : Int) < ((2 ^ s : Nat) : Int) := by simpa using hb
  omega
 rw [e] at hlt ⊢
 rw [bits_or_u64_nat _ _ (by omega) (by omega), ← Nat.two_pow_add_eq_or_of_lt hb']
 omega
theorem and_low (Y : Int) (h0 : 0 ≤ Y) (h1 : Y < 18446744073709551616) : bits .and .u64 Y 4294967295 = Y % 4294967296 := by
 obtain ⟨x, rfl⟩ := Int.eq_ofNat_of_zero_le h0
 have := bits_and_u64_nat x 4294967295 (by omega) (by omega)
 rw [show ((4294967295 : Nat) : Int) = 4294967295 from rfl] at this
 rw [this, show (4294967295 : Nat) = 2 ^ 32 - 1 by rfl, Nat.and_two_pow_sub_one_eq_mod]
 omega
theorem div64_prep (hi lo y : Int) (h0 : 1 ≤ hi) (h1 : hi < y) (hl0 : 0 ≤ lo) (hl1 : lo ≤ 18446744073709551615) (hy : y ≤ 4611686018427387904) :
  ∃ (s : Nat) (Y a1 a0 u T t1 t0 : Int), 1 ≤ s ∧ s ≤ 63 ∧ Hid (64 - (Lib.bitLen y.toNat : Int) = s) ∧ Hid (IntKind.u64.wrap (y * 2 ^ s) = Y ∧ Y / 4294967296 = a1 ∧ bits .and .u64 Y 4294967295 = a0 ∧
   bits .or .u64 (IntKind.u64.wrap (hi * 2 ^ s)) (lo / 2 ^ (64 - s)) = u ∧ IntKind.u64.wrap (lo * 2 ^ s) = T ∧ T / 4294967296 = t1 ∧ bits .and .u64 T 4294967295 = t0) ∧
   (2147483648 ≤ a1 ∧ a1 ≤ 4294967295) ∧ (0 ≤ a0 ∧ a0 ≤ 4294967295) ∧ (0 ≤ t1 ∧ t1 ≤ 4294967295) ∧ (0 ≤ t0 ∧ t0 ≤ 4294967295) ∧ (0 ≤ u ∧ u < a1 * 4294967296 + a0) ∧
   Hid (Y = a1 * 4294967296 + a0) ∧ Hid (Y = y * 2 ^ s) ∧ Hid ((u * 4294967296 + t1) * 4294967296 + t0 = (hi * 18446744073709551616 + lo) * 2 ^ s) := by
 obtain ⟨s, hs1, hs2, hs, hY0, hY1⟩ := lz_ex y (by omega) hy
 obtain ⟨e1, e2, e3, e4⟩ := shl_split (hi := hi) (lo := lo) (y := y) hs1 hs2 (by omega) h1 hl0 (by omega)
 have hhi : hi * 2 ^ s + lo / 2 ^ (64 - s) < 18446744073709551616 := by omega
 have hh0 : 0 ≤ hi * 2 ^ s := Int.mul_nonneg (by omega) (Int.le_of_lt (Int.pow_pos (by omega)))
 have wr : ∀ z : Int, IntKind.u64.wrap z = z % 18446744073709551616 := fun z => by simp [IntKind.wrap, IntKind.bits, IntKind.signed]
 refine ⟨s, y * 2 ^ s, y * 2 ^ s / 4294967296, y * 2 ^ s % 4294967296, hi * 2 ^ s + lo / 2 ^ (64 - s), (lo * 2 ^ s) % 18446744073709551616, (lo * 2 ^ s) % 18446744073709551616 / 4294967296, (lo * 2 ^ s) % 18446744073709551616 % 4294967296, hs1, hs2, hs, ⟨?_, rfl, ?_, ?_, wr _, rfl, ?_⟩, by omega, by omega, by omega, by omega, ⟨by omega, by omega⟩, ?_, rfl, ?_⟩
 · rw [wr]; exact Int.emod_eq_of_lt (by omega) hY1
 · exact and_low _ (by omega) hY1
 · rw [wr, Int.emod_eq_of_lt hh0 (by omega)]; exact or_parts hi _ s (by omega) e1 e2 hhi
 · exact and_low _ (by omega) (by omega)
 · show _ = _; omega
 · show _ = _; omega
def Guess (a1 a0 u v : Int) (x z : Value) : Prop := ∃ q r : Int, x = .int .u64 q ∧ z = .int .u64 r ∧ 0 ≤ r ∧ r ≤ 4294967295 ∧ 0 ≤ q ∧ q ≤ 4294967297 ∧ Hid (u = q * a1 + r) ∧ Hid ((u * 4294967296 + v) / (a1 * 4294967296 + a0) ≤ q)
theorem guess_ex (a1 a0 u v : Int) (ha1 : 2147483648 ≤ a1 ∧ a1 ≤ 4294967295) (ha0 : 0 ≤ a0 ∧ a0 ≤ 4294967295) (hv : 0 ≤ v ∧ v ≤ 4294967295) (hu : 0 ≤ u ∧ u < a1 * 4294967296 + a0) :
  ∃ g r : Int, Hid (u / a1 = g) ∧ (0 ≤ g * a1 ∧ g * a1 ≤ u) ∧ Hid (u - g * a1 = r) ∧ Guess a1 a0 u v (.int .u64 g) (.int .u64 r) := by
 obtain ⟨g0, g1, g2, g3, g4, g5⟩ := knuth_guess ha1.1 ha0.1 (by omega) hu.1 hu.2 v hv.1 (by omega)
 exact ⟨u / a1, u - u / a1 * a1, rfl, ⟨Int.mul_nonneg g0 (by omega), by omega⟩, rfl, u / a1, u - u / a1 * a1, rfl, rfl, g4, by omega, g0, g1, g3, g2⟩
theorem guess_over2 {a1 a0 u v q Q : Int} (HQ : Hid ((u * 4294967296 + v) / (a1 * 4294967296 + a0) = Q)) (ha1 : 2147483648 ≤ a1 ∧ a1 ≤ 4294967295) (ha0 : 0 ≤ a0 ∧ a0 ≤ 4294967295) (hv : 0 ≤ v ∧ v ≤ 4294967295) (hu : 0 ≤ u ∧ u < a1 * 4294967296 + a0) (hq : 4294967296 ≤ q) : Q < q := by
 have := knuth_small (Y := a1 * 4294967296 + a0) (u := u) (v := v) (by omega) hu.2 (by omega)
 rw [HQ.out] at this; omega
theorem guess_over {a1 a0 u v q r Q : Int} (HQ : Hid ((u * 4294967296 + v) / (a1 * 4294967296 + a0) = Q)) (ha1 : 2147483648 ≤ a1 ∧ a1 ≤ 4294967295) (ha0 : 0 ≤ a0 ∧ a0 ≤ 4294967295) (he : Hid (u = q * a1 + r)) (h : 4294967296 * r + v < q * a0) : Q < q := by
 have := knuth_over (v := v) he.out (a0 := a0) (by omega)
 rw [HQ.out] at this; omega
theorem guess_next {a1 u q r : Int} (he : Hid (u = q * a1 + r)) : Hid (u = (q - 1) * a1 + (r + a1)) := by
 show _ = _; rw [Int.sub_mul, Int.one_mul]; have := he.out; omega
theorem guess_less {a1 a0 u v q Q : Int} (hge : Hid ((u * 4294967296 + v) / (a1 * 4294967296 + a0) ≤ q)) (ho : Hid (Q < q)) (HQ : Hid ((u * 4294967296 + v) / (a1 * 4294967296 + a0) = Q)) : Hid ((u * 4294967296 + v) / (a1 * 4294967296 + a0) ≤ q - 1) := by
 show _ ≤ _; rw [HQ.out]; have := ho.out; omega
theorem guess_stop {a1 a0 u v q r Q : Int} (HQ : Hid ((u * 4294967296 + v) / (a1 * 4294967296 + a0) = Q)) (ha1 : 2147483648 ≤ a1 ∧ a1 ≤ 4294967295) (ha0 : 0 ≤ a0 ∧ a0 ≤ 4294967295) (he : Hid (u = q * a1 + r)) (hge : Hid ((u * 4294967296 + v) / (a1 * 4294967296 + a0) ≤ q)) (h : ¬ 4294967296 * r + v < q * a0) : Value.int .u64 q = .int .u64 Q := by
 have a := knuth_done (v := v) he.out (a0 := a0) (by omega) (by omega)
 have b := hge.out
 rw [HQ.out] at a b
 rw [show q = Q by omega]
theorem guess_break {a1 a0 u v q r Q : Int} (HQ : Hid ((u * 4294967296 + v) / (a1 * 4294967296 + a0) = Q)) (ha1 : 2147483648 ≤ a1 ∧ a1 ≤ 4294967295) (ha0 : 0 ≤ a0 ∧ a0 ≤ 4294967295) (hv : 0 ≤ v ∧ v ≤ 4294967295) (hu : 0 ≤ u ∧ u < a1 * 4294967296 + a0)
  (he : Hid (u = q * a1 + r)) (hge : Hid ((u * 4294967296 + v) / (a1 * 4294967296 + a0) ≤ q)) (ho : Hid (Q < q)) (hb : 4294967296 ≤ r + a1) (hq1 : q ≤ 4294967297) : Value.int .u64 (q - 1) = .int .u64 Q := by
 have hQ0 : 0 ≤ Q := by rw [← HQ.out]; exact Int.ediv_nonneg (by omega) (by omega)
 have ho := ho.out
 have m : (q - 1) * a0 ≤ 18446744069414584320 := by
  refine Int.le_trans (Int.mul_le_mul_of_nonneg_left ha0.2 (by omega)) ?_
  omega
 have a := knuth_done (v := v) (guess_next he).out (a0 := a0) (by omega) (by omega)
 rw [HQ.out] at a
 rw [show q - 1 = Q by omega]
theorem mul_bd {q a : Int} (hq : 0 ≤ q ∧ q ≤ 4294967296) (ha : 0 ≤ a ∧ a ≤ 4294967295) : 0 ≤ q * a ∧ q * a ≤ 18446744069414584320 := by
 refine ⟨Int.mul_nonneg hq.1 ha.1, Int.le_trans (Int.mul_le_mul_of_nonneg_left ha.2 hq.1) ?_⟩
 omega
theorem digit_bd {a1 a0 u v Q : Int} (HQ : Hid ((u * 4294967296 + v) / (a1 * 4294967296 + a0) = Q)) (ha1 : 2147483648 ≤ a1 ∧ a1 ≤ 4294967295) (ha0 : 0 ≤ a0 ∧ a0 ≤ 4294967295) (hv : 0 ≤ v ∧ v ≤ 4294967295) (hu : 0 ≤ u ∧ u < a1 * 4294967296 + a0) : 0 ≤ Q ∧ Q ≤ 4294967295 := by
 have a := knuth_small (Y := a1 * 4294967296 + a0) (u := u) (v := v) (by omega) hu.2 (by omega)
 have b : 0 ≤ (u * 4294967296 + v) / (a1 * 4294967296 + a0) := Int.ediv_nonneg (by omega) (by omega)
 rw [HQ.out] at a b; omega
theorem rest_ex {Y a1 a0 u v Q : Int} (HQ : Hid ((u * 4294967296 + v) / (a1 * 4294967296 + a0) = Q)) (HY : Hid (Y = a1 * 4294967296 + a0)) (ha1 : 2147483648 ≤ a1 ∧ a1 ≤ 4294967295) (ha0 : 0 ≤ a0 ∧ a0 ≤ 4294967295) (hv : 0 ≤ v ∧ v ≤ 4294967295) (hu : 0 ≤ u ∧ u < a1 * 4294967296 + a0) :
  ∃ r1, Hid (IntKind.u64.wrap (IntKind.u64.wrap (IntKind.u64.wrap (u * 4294967296) + v) - IntKind.u64.wrap (Q * Y)) = r1) ∧ (0 ≤ r1 ∧ r1 < a1 * 4294967296 + a0) ∧ Hid (r1 = u * 4294967296 + v - Q * Y) := by
 have wr : ∀ z : Int, IntKind.u64.wrap z = z % 18446744073709551616 := fun z => by simp [IntKind.wrap, IntKind.bits, IntKind.signed]
 have e := Int.mul_ediv_add_emod (u * 4294967296 + v) Y
 have hY : Y = a1 * 4294967296 + a0 := HY.out
 have hq : (u * 4294967296 + v) / Y = Q := by rw [hY]; exact HQ.out
 have m0 := Int.emod_nonneg (u * 4294967296 + v) (show Y ≠ 0 by omega)
 have m1 := Int.emod_lt_of_pos (u * 4294967296 + v) (show 0 < Y by omega)
 rw [hq] at e
 have ec : Y * Q = Q * Y := Int.mul_comm _ _
 refine ⟨u * 4294967296 + v - Q * Y, ?_, by omega, rfl⟩
 show _ = _
 rw [wr, wr, wr, wr]; omega
theorem div64_any (hi lo y : Int) (w : World) (h0 : 1 ≤ hi) (h1 : hi < y) (hl0 : 0 ≤ lo) (hl1 : lo ≤ 18446744073709551615) (hy : y ≤ 4611686018427387904) :
  Calls Tryz.prog 178 #[.int .u64 hi, .int .u64 lo, .int .u64 y] w fun e w' => e = .returned (.tuple #[.int .u64 ((hi * 18446744073709551616 + lo) / y), .int .u64 ((hi * 18446744073709551616 + lo) % y)]) ∧ Below w.heap.size w w' := by
 have hy0 : (y == 0) = false := by simp; omega
 have hh0 : (hi == 0) = false := by simp; omega
 obtain ⟨s, Y, a1, a0, u, T, t1, t0, hs1, hs2, hs, QQ, ha1, ha0, ht1, ht0, hu, HY, HYs, HU⟩ := div64_prep hi lo y h0 h1 hl0 hl1 hy
 obtain ⟨g, r, G1, G2, G3, HG⟩ := guess_ex a1 a0 u t1 ha1 ha0 ht1 hu
 obtain ⟨qY, qa1, qa0, qu, qT, qt1, qt0⟩ := QQ.out
 have qg := G1.out
 have qr := G3.out
 go_enter Tryz.func178, Tryz.ntmps178
 go_upto_block 0 with (go_at_call 197; refine (Tryz.bits_LeadingZeros64 y _ (by omega) (by omega)).mono ?_; rintro e w1 ⟨rfl, rfl⟩; rw [hs.out])
 clear qY qa1 qa0 qu qT qt1 qt0 qg qr
 obtain ⟨Q1, hQ1⟩ : ∃ Q1, (u * 4294967296 + t1) / (a1 * 4294967296 + a0) = Q1 := ⟨_, rfl⟩
 have HQ1 := hyd hQ1; clear hQ1
 go_cut [15, 16] (fun s15 s16 wc => s15 = .int .u64 Q1 ∧ wc = w1)
 case first =>
  go_wp2_with fail
  go_loop [15, 16] (fun x z => Guess a1 a0 u t1 x z) (fun x _ => (intOf x).toNat)
  case atStart => exact (by rw [G1.out]; exact HG)
  case round =>
   obtain ⟨q, r, rfl, rfl, hr0, hr1, hq0, hq1, hue, hge⟩ := hrel
   by_cases hq : 4294967296 ≤ q
   · have over := guess_over2 HQ1 ha1 ha0 ht1 hu hq
     have HOV := hyd over; clear over
     by_cases hb : 4294967296 ≤ r + a1
     · go_wp2_with fail
       go_meet
       exact ⟨guess_break HQ1 ha1 ha0 ht1 hu hue hge HOV hb hq1, rfl⟩
     · go_wp2_with fail
       refine ⟨⟨q - 1, r + a1, rfl, rfl, by omega, by omega, by omega, by omega, guess_next hue, guess_less hge HOV HQ1⟩, by simp [intOf]; omega⟩
   · have hm := mul_bd (q := q) (a := a0) ⟨hq0, by omega⟩ ha0
     by_cases hgt : 4294967296 * r + t1 < q * a0
     · have over := guess_over HQ1 ha1 ha0 hue hgt
       have HOV := hyd over; clear over
       have hqp : 1 ≤ q := by
        rcases Int.lt_or_le 0 q with h | h
        · omega
        · have : q = 0 := by omega
          subst this; omega
       by_cases hb : 4294967296 ≤ r + a1
       · go_wp2_with fail
         go_meet
         exact ⟨guess_break HQ1 ha1 ha0 ht1 hu hue hge HOV hb hq1, rfl⟩
       · go_wp2_with fail
         refine ⟨⟨q - 1, r + a1, rfl, rfl, by omega, by omega, by omega, by omega, guess_next hue, guess_less hge HOV HQ1⟩, by simp [intOf]; omega⟩
     · go_wp2_with fail
       go_meet
       exact ⟨guess_stop HQ1 ha1 ha0 hue hge (by omega), rfl⟩
 case rest =>
  obtain ⟨rfl, rfl⟩ := hcut
  have hQ1b := digit_bd HQ1 ha1 ha0 ht1 hu
  obtain ⟨r1, R1, hu1, HR1⟩ := rest_ex HQ1 HY ha1 ha0 ht1 hu
  obtain ⟨g', r', G1', G2', G3', HG'⟩ := guess_ex a1 a0 r1 t0 ha1 ha0 ht0 hu1
  have qr1 := R1.out
  have qg := G1'.out
  have qr := G3'.out
  go_upto_block 2 with fail
  clear qr1 qg qr
  obtain ⟨Q0, hQ0⟩ : ∃ Q0, (r1 * 4294967296 + t0) / (a1 * 4294967296 + a0) = Q0 := ⟨_, rfl⟩
  have HQ0 := hyd hQ0; clear hQ0
  go_cut [18, 16] (fun s18 s16 wc' => s18 = .int .u64 Q0 ∧ wc' = wc)
  case first =>
   go_wp2_with fail
   go_loop [18, 16] (fun x z => Guess a1 a0 r1 t0 x z) (fun x _ => (intOf x).toNat)
   case atStart => exact (by rw [G1'.out]; exact HG')
   case round =>
    obtain ⟨q, r, rfl, rfl, hr0, hr1, hq0, hq1, hue, hge⟩ := hrel
    by_cases hq : 4294967296 ≤ q
    · have over := guess_over2 HQ0 ha1 ha0 ht0 hu1 hq
      have HOV := hyd over; clear over
      by_cases hb : 4294967296 ≤ r + a1
      · go_wp2_with fail
        go_meet
        exact ⟨guess_break HQ0 ha1 ha0 ht0 hu1 hue hge HOV hb hq1, rfl⟩
      · go_wp2_with fail
        refine ⟨⟨q - 1, r + a1, rfl, rfl, by omega, by omega, by omega, by omega, guess_next hue, guess_less hge HOV HQ0⟩, by simp [intOf]; omega⟩
    · have hm := mul_bd (q := q) (a := a0) ⟨hq0, by omega⟩ ha0
      by_cases hgt : 4294967296 * r + t0 < q * a0
      · have over := guess_over HQ0 ha1 ha0 hue hgt
        have HOV := hyd over; clear over
        have hqp : 1 ≤ q := by
         rcases Int.lt_or_le 0 q with h | h
         · omega
         · have : q = 0 := by omega
           subst this; omega
        by_cases hb : 4294967296 ≤ r + a1
        · go_wp2_with fail
          go_meet
          exact ⟨guess_break HQ0 ha1 ha0 ht0 hu1 hue hge HOV hb hq1, rfl⟩
        · go_wp2_with fail
          refine ⟨⟨q - 1, r + a1, rfl, rfl, by omega, by omega, by omega, by omega, guess_next hue, guess_less hge HOV HQ0⟩, by simp [intOf]; omega⟩
      · go_wp2_with fail
        go_meet
        exact ⟨guess_stop HQ0 ha1 ha0 hue hge (by omega), rfl⟩
  case rest =>
   obtain ⟨rfl, rfl⟩ := hcut
   have hQ0b := digit_bd HQ0 ha1 ha0 ht0 hu1
   obtain ⟨r0, R0, hu0, HR0⟩ := rest_ex HQ0 HY ha1 ha0 ht0 hu1
   have qr0 := R0.out
   go_wp2_with fail
   go_ret2
   obtain ⟨f1, f2⟩ := knuth_end (N := hi * 18446744073709551616 + lo) (y := y) (P := 2 ^ s) (Y := Y) (u := u) (t1 := t1) (t0 := t0) (Int.pow_pos (by omega)) (by omega) HYs.out HU.out
   refine ⟨?_, Below.refl _ _⟩
   have e1 : (u * 4294967296 + t1) / Y = Q1 := by rw [HY.out]; exact HQ1.out
   rw [e1] at f1 f2
   rw [← HR1.out] at f1 f2
   have e0 : (r1 * 4294967296 + t0) / Y = Q0 := by rw [HY.out]; exact HQ0.out
   rw [e0] at f1 f2
   rw [← HR0.out] at f2
   rw [f1, f2]; rfl
end Go.Proofs.YtbjjgnaojoaoiaaGreat
