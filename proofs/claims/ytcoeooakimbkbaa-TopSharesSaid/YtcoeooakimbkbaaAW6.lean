/- Total, Order. -/
import Derived.Test.YtcoeooakimbkbaaAW5
namespace Go.Proofs.Ytcoeooakimbkbaa
open Go.RowKit Go
set_option linter.unusedVariables false
set_option linter.unusedSimpArgs false

def totalS (its : List Dq) : Int × Int := if placesE its = 0 then sumS (its.map Dq.opn) else (0, placesE its)
set_option maxHeartbeats 3200000 in
set_option maxRecDepth 100000 in
theorem total_any (A : Option Addr) (its : List Dq) (n c : Nat) (w : World) (hn : its.length = n) (hr : Rd w w.heap.size 4 A n (itCs its)) (hm : n ≤ maxLen) :
    Calls Try.prog 6 #[.slice A n c] w fun e w' => e = .returned (pr (totalS its)) ∧ Below w.heap.size w w' := by
  unfold maxLen at hm
  obtain ⟨i0, hi, hz0, hz1', hz2⟩ := info_parts info_i64
  have hp := places_any A its c w (by unfold ItR; rw [hn]; exact hr) (by unfold maxLen; omega)
  rw [hn] at hp
  have HN := Lib.hid hn; have HR := Lib.hid hr; have HP := Lib.hid hp
  clear hn hr hp
  go_enter Try.func6, Try.ntmps6
  go_wp2_with fail
  refine HP.out.mono ?_
  intro e w1 h
  obtain ⟨hb1, ⟨hne, rfl⟩ | ⟨he, A', c', d, rfl, hrd, hpd, hri, hnew⟩⟩ := h
  · have HB1 := Lib.hid hb1
    have HT : Hid (totalS its = (0, placesE its)) := Lib.hid (if_neg hne)
    rcases placesE_cases its with he | he | he
    · exact absurd he hne
    · rw [he] at HT ⊢
      clear he hne hb1
      go_wp2_with fail
      go_ret2
      exact ⟨by rw [HT.out]; rfl, HB1.out⟩
    · rw [he] at HT ⊢
      clear he hne hb1
      go_wp2_with fail
      go_ret2
      exact ⟨by rw [HT.out]; rfl, HB1.out⟩
  · have HB1 := Lib.hid hb1
    have hz1 := hb1.size
    have HR1 := Lib.hid (HR.out.below hb1)
    have HT : Hid (totalS its = sumS (its.map Dq.opn)) := Lib.hid (if_pos he)
    have h200 : n ≤ 200 := by have := (placesE_ok he).1; have := HN.out; omega
    clear he hb1 hrd hpd hri hnew HP
    go_wp2_with fail
    go_loopw [6, 19] (fun v i wr => ∃ k : Nat, k ≤ n ∧ i = .int .i64 k ∧ wr.ownsRow w1.heap.size 2 1 v k (ints ((its.take k).map Dq.opn)) ∧ Below w1.heap.size w1 wr) (fun _ i _ => n - (intOf i).toNat)
    case atStart => exact ⟨0, by omega, rfl, World.ownsRow_nil _ _ _ 1, Below.refl _ _⟩
    case round =>
      obtain ⟨k, hk, rfl, hown, hbr⟩ := hrel
      have HO := Lib.hid hown; have HB := Lib.hid hbr
      have hzr := hbr.size
      by_cases hlt : k < n
      · have hk' : k < its.length := by have := HN.out; omega
        obtain ⟨b, off, rfl, hb, x0, x1, x2, x3⟩ := (HR1.out.below (hbr.mono hz1)).it hk'
        have HTK : Hid (ints ((its.take (k + 1)).map Dq.opn) = ints ((its.take k).map Dq.opn) ++ [.int .i64 its[k].opn]) := Lib.hid (by rw [List.take_succ_eq_append_getElem hk', List.map_append]; simp only [ints, List.map_append, List.map_cons, List.map_nil])
        generalize its[k] = x at *
        clear hbr hown
        have i1 : (0 : Int) ≤ (k : Int) := by omega
        have i2 : (k : Int) < (n : Int) := by omega
        go_wp2_with (at_builtin; refine wpList_app rfl (.tmp 23) (.tmp 26) _ rfl w1.heap.size 2 i0 _ 1 8 Try.underlying22 hi hz0 hz1' hz2 rfl (by omega) _ _ _ rfl ((HO.out.alloc _).alloc _) _ _ 1 1 [.int .i64 x.opn] rfl (Rd.new (cs := #[.int .i64 x.opn]) (by simp) rfl) (by simp [Value.oneCell']) (by unfold maxLen; omega) (by omega) (by simp; omega) ?_; intro v2 w2 hown2 hg2 hat2)
        refine ⟨⟨k + 1, by omega, by go_num, by rw [HTK.out]; exact hown2, ?_⟩, by simp [intOf]; omega⟩
        exact ((HB.out.alloc hzr _).alloc (by simp; omega) _).grown hg2 (by simp; omega) (fun k hk => (HO.out.lt k hk).1)
      · have hkn : k = n := by omega
        subst hkn
        rw [List.take_of_length_le (by rw [HN.out]; exact Nat.le_refl _)] at hown
        obtain ⟨A2, c2, rfl, _⟩ := own_form hown
        have hl : (its.map Dq.opn).length = k := by rw [List.length_map]; exact HN.out
        have hrt := Rd.of_own hown
        have hsm := sum_any A2 (its.map Dq.opn) c2 wr (by rw [hl]; exact hrt) (by rw [hl]; omega)
        rw [hl] at hsm
        have HS := Lib.hid hsm
        have HB2 := Lib.hid (HB1.out.trans (hbr.mono hz1))
        clear hbr hown hrt hl hsm
        go_wp2_with fail
        refine HS.out.mono ?_; rintro e w2 ⟨rfl, hw2⟩
        have HB3 := Lib.hid (HB2.out.trans (hw2.mono HB2.out.size))
        clear hw2
        go_wp2_with fail
        go_ret2
        exact ⟨by rw [HT.out]; rfl, HB3.out⟩
end Go.Proofs.Ytcoeooakimbkbaa
