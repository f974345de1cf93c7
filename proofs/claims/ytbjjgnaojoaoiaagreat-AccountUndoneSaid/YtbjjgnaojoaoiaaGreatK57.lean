/- code.Number: the walk. -/
import Derived.Test.YtbjjgnaojoaoiaaGreatK54
import Derived.Test.YtbjjgnaojoaoiaaGreatK3
namespace Go.Proofs.YtbjjgnaojoaoiaaGreat
open Go.RowKit Go
set_option linter.unusedVariables false
set_option linter.unusedSimpArgs false

/-- The number of a byte that more follow. -/
theorem u8_or (m : Nat) : bits .or .u8 ((m : Int) % 128) 128 = ((m % 128 + 128 : Nat) : Int) := by
  have e : (m : Int) % 128 = ((m % 128 : Nat) : Int) := by omega
  rw [e]
  show IntKind.u8.wrap (((BitVec.ofInt 8 ((m % 128 : Nat) : Int) ||| BitVec.ofInt 8 128).toNat : Nat) : Int) = _
  rw [or_128 _ (by omega)]
  exact IntWalk.u8_in _ (by omega)
theorem u64_div (m : Nat) (h : m < 18446744073709551616) : IntKind.u64.wrap ((m : Int) / 128) = ((m / 128 : Nat) : Int) := by
  rw [IntWalk.u64_in _ (by omega)]; omega
set_option maxHeartbeats 3200000 in
set_option maxRecDepth 100000 in
theorem number_any (n : Nat) (w : World) (hn : n < 18446744073709551616) :
    Calls Tryz.prog 62 #[.int .u64 n] w fun e w' => (∃ g c, e = .returned (.slice (some ⟨g, 0, none⟩) (numB n).length c) ∧ w'.ownsRow w.heap.size 5 1 (.slice (some ⟨g, 0, none⟩) (numB n).length c) (numB n).length (bys (numB n))) ∧ Below w.heap.size w w' := by
  obtain ⟨i0, hi, hz0, hz1, hz2⟩ := info_parts info_u8
  have HI := Lib.hid hi
  have hlen := numB_len hn
  obtain ⟨r, hr⟩ : ∃ r : List Nat, r = n % 128 :: tailB (n / 128) := ⟨_, rfl⟩
  have hrl : r.length = (numB n).length := by rw [hr]; unfold numB; simp
  have hrr : r.reverse = numB n := by rw [hr]; rfl
  have HR := Lib.hid hr; have HRL := Lib.hid hrl; have HRR := Lib.hid hrr
  clear hi hrl hr hrr
  have hn0 : [Value.int .u8 ((n % 128 : Nat) : Int)] = bys [n % 128] := rfl
  have hq0 := u64_div n hn
  have HN := Lib.hid hn
  clear hn
  go_enter Tryz.func62, Tryz.ntmps62
  go_wp2_with fail
  go_loopg [0, 3] (n / 128) (fun gh v0 v3 wr => ∃ (m : Nat) (l : List Nat), gh = m ∧ m < 18446744073709551616 ∧ v0 = .int .u64 m ∧ 0 < l.length ∧ l ++ tailB m = r ∧ wr.ownsRow w.heap.size 5 1 v3 l.length (bys l) ∧ Below w.heap.size w wr)
  case atStart =>
    have e : (n : Int) % 128 = ((n % 128 : Nat) : Int) := by omega
    rw [e]
    refine ⟨n / 128, [n % 128], rfl, by have := HN.out; omega, rfl, by simp, by rw [HR.out]; rfl, ?_, (Below.refl _ _).alloc (Nat.le_refl _) _⟩
    exact ⟨rfl, .inr ⟨w.heap.size, 1, #[.int .u8 ((n % 128 : Nat) : Int)], rfl, Nat.le_refl _, blk_new _ _ rfl, Nat.le_refl _, by unfold maxLen; omega, by simp, rfl⟩⟩
  case round =>
    obtain ⟨m, l, hgm, hm, rfl, hl0, hl, hown, hbr⟩ := hrel
    have HG := Lib.hid hgm; have HL := Lib.hid hl; have HO := Lib.hid hown; have HB := Lib.hid hbr; have HM := Lib.hid hm
    have hll : l.length + (tailB m).length ≤ 10 := by have := congrArg List.length hl; rw [List.length_append, HRL.out] at this; omega
    clear hgm hl hown hbr hm hlen
    by_cases h0 : 0 < m
    · have i1 : (0 : Int) < (m : Int) := by omega
      have hz3 := HB.out.size
      have hl1 : l.length < 10 := by rw [tailB_pos h0, List.length_cons] at hll; omega
      have hq1 := u64_div m HM.out
      have hor := u8_or m
      clear hll
      go_wp2_with (at_builtin; (refine wpList_app rfl (.tmp 14) (.tmp 19) _ rfl w.heap.size 5 i0 _ 1 1 Tryz.underlying66 HI.out hz0 hz1 hz2 rfl (by omega) _ _ _ rfl (HO.out.alloc _) _ _ 1 1 [.int .u8 ((m : Int) % 128 + 128)] rfl (Rd.new (cs := #[.int .u8 ((m : Int) % 128 + 128)]) rfl rfl) (by simp [Value.oneCell']) (by unfold maxLen; omega) (by omega) (by simp; omega) ?_; intro v2 w2 hown2 hg2 hat2))
      go_roundg (m / 128)
      case measure => have := HG.out; omega
      case rel => exact ⟨m / 128, l ++ [m % 128 + 128], rfl, by have := HM.out; omega, rfl, by simp, by rw [← HL.out, tailB_pos h0]; simp, by rw [bys_app, List.length_append]; exact hown2, (HB.out.alloc hz3 _).grown hg2 (by simp; omega) (fun k hk => (HO.out.lt k hk).1)⟩
    · have h0 : m = 0 := by omega
      subst h0
      rw [tailB_zero, List.append_nil] at HL
      obtain ⟨g, c, rfl, _⟩ := HO.out.form hl0
      have HRV := Lib.hid (reverseB_any w.heap.size g c l.length l wr rfl HO.out HB.out.size (by omega))
      go_wp2_with fail
      refine HRV.out.mono ?_; rintro e w1 ⟨⟨x, rfl⟩, ho, hb⟩
      go_wp2_with fail
      go_ret
      exact ⟨⟨g, c, by rw [← HRR.out, ← HL.out]; simp, by rw [← HRR.out, ← HL.out, List.length_reverse]; exact ho⟩, HB.out.trans hb⟩
end Go.Proofs.YtbjjgnaojoaoiaaGreat
