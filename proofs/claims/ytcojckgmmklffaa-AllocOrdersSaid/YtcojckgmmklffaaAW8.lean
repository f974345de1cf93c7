/- The reference's Total, Order, Same. -/
import Derived.Test.YtcojckgmmklffaaAW7
namespace Go.Proofs.Ytcojckgmmklffaa
open Go.RowKit Go
set_option linter.unusedVariables false
set_option linter.unusedSimpArgs false

set_option maxHeartbeats 3200000 in
set_option maxRecDepth 100000 in
theorem totalRef_any (A : Option Addr) (its : List Dq) (n c : Nat) (w : World) (hn : its.length = n) (hr : Rd w w.heap.size 4 A n (itCs its)) (hm : n ≤ maxLen) :
    Calls Try.prog 13 #[.slice A n c] w fun e w' => e = .returned (pr (totalS its)) ∧ Below w.heap.size w w' := by
  unfold maxLen at hm
  obtain ⟨i0, hi, hz0, hz1', hz9⟩ := info_parts info_i64
  have hp := right_any A its c w (by unfold ItR; rw [hn]; exact hr) (by unfold maxLen; omega)
  rw [hn] at hp
  have HN := Lib.hid hn; have HR := Lib.hid hr; have HP := Lib.hid hp
  clear hn hr hp
  go_enter Try.func13, Try.ntmps13
  go_wp2_with fail
  refine HP.out.mono ?_
  rintro e w1 ⟨rfl, hb1⟩
  have HB1 := Lib.hid hb1
  have hz1 := hb1.size
  have HR1 := Lib.hid (HR.out.below hb1)
  clear hb1 HP
  rcases placesE_cases its with he | he | he
  · have HT : Hid (totalS its = sumS (its.map Dq.opn)) := Lib.hid (if_pos he)
    have h200 : n ≤ 200 := by have := (placesE_ok he).1; have := HN.out; omega
    rw [he]; clear he
    go_wp2_with fail
    go_loopw [5, 6] (fun v i wr => ∃ k : Nat, k ≤ n ∧ i = .int .i64 k ∧ wr.ownsRow w1.heap.size 2 1 v k (ints ((its.take k).map Dq.opn)) ∧ Below w1.heap.size w1 wr) (fun _ i _ => n - (intOf i).toNat)
    case atStart => exact ⟨0, by omega, rfl, World.ownsRow_nil _ _ _ 1, Below.refl _ _⟩
    case round =>
      obtain ⟨k, hk, rfl, hown, hbr⟩ := hrel
      have HO := Lib.hid hown; have HB := Lib.hid hbr
      have hzr := hbr.size
      by_cases hlt : k < n
      · have hk' : k < its.length := by have := HN.out; omega
        obtain ⟨b, off, rfl, hb, x0, x1, x2, x3⟩ := (HR1.out.below (hbr.mono hz1)).it hk'
        have HTK : Hid (ints ((its.take (k + 1)).map Dq.opn) = ints ((its.take k).map Dq.opn) ++ [.int .i64 its[k].opn]) := Lib.hid (by rw [List.take_succ_eq_append_getElem hk', List.map_append]; simp only [ints, List.map_append, List.map_cons, List.map_nil])
        generalize its[k] = x at *
        clear hbr hown
        have i1 : (0 : Int) ≤ (k : Int) := by omega
        have i2 : (k : Int) < (n : Int) := by omega
        go_wp2_with (at_builtin; refine wpList_app rfl (.tmp 18) (.tmp 24) _ rfl w1.heap.size 2 i0 _ 1 8 Try.underlying31 hi hz0 hz1' hz9 rfl (by omega) _ _ _ rfl (HO.out.alloc _) _ _ 1 1 [.int .i64 x.opn] rfl (Rd.new (cs := #[.int .i64 x.opn]) rfl rfl) (by simp [Value.oneCell']) (by unfold maxLen; omega) (by omega) (by simp; omega) ?_; intro v2 w2 hown2 hg2 hat2)
        refine ⟨⟨k + 1, by omega, by go_num, by rw [HTK.out]; exact hown2, ?_⟩, by simp [intOf]; omega⟩
        exact (HB.out.alloc hzr _).grown hg2 (by simp; omega) (fun k hk => (HO.out.lt k hk).1)
      · have hkn : k = n := by omega
        subst hkn
        rw [List.take_of_length_le (by rw [HN.out]; exact Nat.le_refl _)] at hown
        obtain ⟨A2, c2, rfl, _⟩ := own_form hown
        have hl : (its.map Dq.opn).length = k := by rw [List.length_map]; exact HN.out
        have hrt := Rd.of_own hown
        have hsm := rsum_any A2 (its.map Dq.opn) c2 wr (by rw [hl]; exact hrt) (by rw [hl]; omega)
        rw [hl] at hsm
        have HS := Lib.hid hsm
        have HB2 := Lib.hid (HB1.out.trans (hbr.mono hz1))
        clear hbr hown hrt hl hsm
        go_wp2_with fail
        refine HS.out.mono ?_; rintro e w2 ⟨rfl, hw2⟩
        have HB3 := Lib.hid (HB2.out.trans (hw2.mono HB2.out.size))
        clear hw2
        go_wp2_with fail
        go_ret2
        exact ⟨by rw [HT.out]; rfl, HB3.out⟩
  · have HT : Hid (totalS its = (0, 1)) := Lib.hid (by unfold totalS; rw [if_neg (by omega), he])
    rw [he]; clear he
    go_wp2_with fail
    go_ret2
    exact ⟨by rw [HT.out]; rfl, HB1.out⟩
  · have HT : Hid (totalS its = (0, 5)) := Lib.hid (by unfold totalS; rw [if_neg (by omega), he])
    rw [he]; clear he
    go_wp2_with fail
    go_ret2
    exact ⟨by rw [HT.out]; rfl, HB1.out⟩

set_option maxHeartbeats 3200000 in
theorem sameIt_any (A B : Option Addr) (xs : List Dq) (n m c c' : Nat) (w : World) (hx : Rd w w.heap.size 4 A n (itCs xs)) (hy : Rd w w.heap.size 4 B m (itCs xs)) (hn : n ≤ 1000000) :
    Calls Try.prog 14 #[.slice A n c, .slice B m c'] w fun e w' => e = .returned (.bool true) ∧ Below w.heap.size w w' := by
  have ex : xs.length = n := by have := hx.1; rw [itCs_len] at this; omega
  have ey : xs.length = m := by have := hy.1; rw [itCs_len] at this; omega
  have hnm : n = m := by omega
  subst hnm
  have HX := Lib.hid hx; have HY := Lib.hid hy; have EX := Lib.hid ex
  clear hx hy ex ey
  go_enter Try.func14, Try.ntmps14
  go_wp2_with fail
  go_loopg [5] n (fun gh vi wr => ∃ k : Nat, gh = n - k ∧ k ≤ n ∧ vi = .int .i64 k ∧ Below w.heap.size w wr)
  case atStart => exact ⟨0, rfl, by omega, rfl, Below.refl _ _⟩
  case round =>
    obtain ⟨k, hgk, hk, rfl, hb⟩ := hrel
    have HG := Lib.hid hgk; have HB := Lib.hid hb
    clear hgk hb
    by_cases hlt : k < n
    · have h1 : k < xs.length := by have := EX.out; omega
      obtain ⟨b1, o1, rfl, hb1, x0, x1, x2, x3⟩ := (HX.out.below HB.out).it h1
      obtain ⟨b2, o2, rfl, hb2, y0, y1, y2, y3⟩ := (HY.out.below HB.out).it h1
      have i1 : (0 : Int) ≤ (k : Int) := by omega
      have i2 : (k : Int) < (n : Int) := by omega
      generalize xs[k] = x at *
      go_wp2_with fail
      go_quiet (fail)
      clear x0 x1 x2 x3 y0 y1 y2 y3
      go_wp2_with fail
      go_roundg (n - (k + 1))
      case measure => have := HG.out; omega
      case rel => exact ⟨k + 1, rfl, by omega, by go_num, below_drewN HB.out _⟩
    · go_wp2_with fail
      go_ret
      exact ⟨rfl, HB.out⟩
end Go.Proofs.Ytcojckgmmklffaa
