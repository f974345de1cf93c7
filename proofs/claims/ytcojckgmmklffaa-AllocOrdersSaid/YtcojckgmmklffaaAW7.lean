/- Order; the reference's Total, Order, Same. -/
import Derived.Test.YtcojckgmmklffaaAW6
import Derived.Test.YtcojckgmmklffaaAX1
import Derived.Test.YtcojckgmmklffaaR3
import Derived.Test.YtcojckgmmklffaaLTwice
import Derived.OwnWalk
namespace Go.Proofs.Ytcojckgmmklffaa
open Go.RowKit Go
set_option linter.unusedVariables false
set_option linter.unusedSimpArgs false

theorem rise_uniq : ∀ {s t : List Dq}, s.Perm t → (s.Pairwise fun a b => keyI a < keyI b) → (t.Pairwise fun a b => keyI a < keyI b) → s = t
  | [], t, h, _, _ => (List.Perm.nil_eq h)
  | x :: s, [], h, _, _ => by have := h.length_eq; simp at this
  | x :: s, y :: t, h, h1, h2 => by
    rw [List.pairwise_cons] at h1 h2
    have e : x = y := by
      have hx : x ∈ y :: t := h.mem_iff.1 (by simp)
      have hy : y ∈ x :: s := h.mem_iff.2 (by simp)
      rcases List.mem_cons.1 hx with e | hx
      · exact e
      · rcases List.mem_cons.1 hy with e | hy
        · exact e.symm
        · have a := h1.1 y hy; have b := h2.1 x hx; omega
    subst e
    rw [rise_uniq (List.Perm.cons_inv h) h1.2 h2.2]
/-- The items, in rising order. -/
def IsOrd (its s : List Dq) : Prop := s.Perm its ∧ s.Pairwise fun a b => keyI a < keyI b
theorem IsOrd.of {its : List Dq} {d : List Int} (h : Pl its.length d) (hr : Rise its d) : IsOrd its (inOrd its d) := ⟨inOrd_perm h, hr⟩
theorem IsOrd.same {its s t : List Dq} (h : IsOrd its s) (k : IsOrd its t) : s = t := rise_uniq (h.1.trans k.1.symm) h.2 k.2
theorem IsOrd.len {its s : List Dq} (h : IsOrd its s) : s.length = its.length := h.1.length_eq
def OrderOf (its : List Dq) (w : World) (e : Ending) (w' : World) : Prop := Below w.heap.size w w' ∧
  ((placesE its ≠ 0 ∧ e = .returned (.tuple #[.slice none 0 0, .int .i64 (placesE its)])) ∨
   (placesE its = 0 ∧ ∃ A' c' s, e = .returned (.tuple #[.slice A' its.length c', .int .i64 0]) ∧ Rd w' w'.heap.size 4 A' its.length (itCs s) ∧ IsOrd its s ∧ its.length ≤ c'))
theorem inOrd_take (its : List Dq) (d : List Int) (k j : Nat) (hk : k < d.length) (hj : d[k] = (j : Int)) (hjn : j < its.length) : itCs (inOrd its (d.take (k + 1))) = itCs (inOrd its (d.take k)) ++ itC its[j] := by
  have : inOrd its (d.take (k + 1)) = inOrd its (d.take k) ++ [its[j]] := by
    unfold inOrd
    rw [List.take_succ_eq_append_getElem hk, List.map_append, List.map_cons, List.map_nil, hj]
    simp [hjn]
  rw [this, itCs_app]; simp [itCs]

set_option maxHeartbeats 3200000 in
set_option maxRecDepth 100000 in
theorem order_list (A : Option Addr) (its : List Dq) (n c : Nat) (w : World) (hn : its.length = n) (hr : Rd w w.heap.size 4 A n (itCs its)) (hm : n ≤ maxLen) :
    Calls Try.prog 10 #[.slice A n c] w (OrderOf its w) := by
  unfold maxLen at hm
  obtain ⟨i0, hi, hz0, hz1', hz9⟩ := info_parts info_it
  have hp := places_any A its c w (by unfold ItR; rw [hn]; exact hr) (by unfold maxLen; omega)
  rw [hn] at hp
  have HN := Lib.hid hn; have HR := Lib.hid hr; have HP := Lib.hid hp
  clear hn hr hp
  go_enter Try.func10, Try.ntmps10
  go_wp2_with fail
  refine HP.out.mono ?_
  intro e w1 h
  obtain ⟨hb1, ⟨hne, rfl⟩ | ⟨he, A', c', d, rfl, hrd, hpd, hri, hnew⟩⟩ := h
  · have HB1 := Lib.hid hb1
    have HNE := Lib.hid hne
    have hq : (placesE its != 0) = true := by simpa using hne
    clear hb1 hne
    go_wp2_with fail
    go_ret2
    exact ⟨HB1.out, .inl ⟨HNE.out, rfl⟩⟩
  · have HB1 := Lib.hid hb1
    have hz1 := hb1.size
    have HR1 := Lib.hid (HR.out.below hb1)
    have HE := Lib.hid he
    have h200 : n ≤ 200 := by have := (placesE_ok he).1; have := HN.out; omega
    rw [HN.out] at hrd
    have HRD := Lib.hid hrd; have HPD := Lib.hid hpd; have HRI := Lib.hid hri
    have HDL : Hid (d.length = n) := Lib.hid (by rw [hpd.len]; exact HN.out)
    rw [HN.out]
    clear he hb1 hrd hpd hri hnew HP
    go_wp2_with (at_make; refine wpList_make_own _ rfl _ _ 22 rfl w1.heap.size 37 i0 _ 4 Try.underlying22 hi hz0 hz1' .i64 .i64 _ n rfl rfl (by first | rfl | omega) (by rw [hz9]; omega) (by unfold maxLen; omega) (Nat.le_refl _) ?_; intro w2 hown2 hg2)
    have HB2 : Hid (Below w1.heap.size w1 w2) := Lib.hid ((Below.refl _ _).grown hg2 (Nat.le_refl _) (fun k hk => by cases hk))
    have HO2 := Lib.hid hown2
    clear hown2 hg2
    go_loopg [6, 22] n (fun gh v i wr => ∃ k : Nat, gh = n - k ∧ k ≤ n ∧ i = .int .i64 k ∧ wr.ownsRow w1.heap.size 37 4 v k (itCs (inOrd its (d.take k))) ∧ Below w1.heap.size w1 wr)
    case atStart => exact ⟨0, rfl, by omega, rfl, HO2.out, HB2.out⟩
    case round =>
      obtain ⟨k, hgk, hk, rfl, hown, hbr⟩ := hrel
      have HG := Lib.hid hgk; have HO := Lib.hid hown; have HB := Lib.hid hbr
      have hzr := hbr.size
      by_cases hlt : k < n
      · have hkd : k < d.length := by have := HDL.out; omega
        obtain ⟨p, ep, hp⟩ := HPD.out.at hkd
        obtain ⟨bd, od, rfl, hbd, cd⟩ := (HRD.out.below hbr).num hkd
        rw [ep] at cd
        obtain ⟨b, off, rfl, hb, x0, x1, x2, x3⟩ := (HR1.out.below (hbr.mono hz1)).it hp
        have HTK := Lib.hid (inOrd_take its d k p hkd ep hp)
        unfold itC at HTK
        have hpn : p < n := by have := HN.out; omega
        generalize its[p] = x at *
        clear hbr hown ep hgk
        have i1 : (0 : Int) ≤ (k : Int) := by omega
        have i2 : (k : Int) < (n : Int) := by omega
        have i3 : (0 : Int) ≤ (p : Int) := by omega
        have i4 : (p : Int) < (n : Int) := by omega
        go_wp2_with (at_builtin; refine wpList_app rfl (.tmp 26) (.tmp 31) _ rfl w1.heap.size 37 i0 _ 4 32 Try.underlying22 hi hz0 hz1' hz9 rfl (by omega) _ _ _ rfl (HO.out.alloc _) _ _ 1 1 [.int .i64 x.due, .int .i64 x.kind, .int .i64 x.per, .int .i64 x.opn] rfl (Rd.new (cs := #[.int .i64 x.due, .int .i64 x.kind, .int .i64 x.per, .int .i64 x.opn]) rfl rfl) (by simp [Value.oneCell']) (by unfold maxLen; omega) (by omega) (by simp; omega) ?_; intro v2 w3 hown3 hg3 hat3)
        go_roundg (n - (k + 1))
        case measure => have := HG.out; omega
        case rel =>
          refine ⟨k + 1, rfl, by omega, by go_num, by rw [HTK.out]; exact hown3, ?_⟩
          exact (HB.out.alloc hzr _).grown hg3 (by simp; omega) (fun k hk => (HO.out.lt k hk).1)
      · have hkn : k = n := by omega
        subst hkn
        rw [List.take_of_length_le (by rw [HDL.out]; exact Nat.le_refl _)] at hown
        obtain ⟨A2, c2, rfl, _⟩ := own_form hown
        have hrt := Rd.of_own hown
        have HRT := Lib.hid hrt
        have HCP : Hid (k ≤ c2) := Lib.hid (by
          rcases hown.2 with ⟨h, h2⟩ | ⟨g, cap, cur, h, _, _, h4, _⟩
          · omega
          · injection h with _ _ h; omega)
        have HBF := Lib.hid (HB1.out.trans (hbr.mono hz1))
        clear hown hrt hbr hgk
        go_wp2_with fail
        go_ret2
        refine ⟨HBF.out, .inr ⟨HE.out, A2, c2, inOrd its d, by rw [HN.out]; rfl, by rw [HN.out]; exact HRT.out, IsOrd.of HPD.out HRI.out, by rw [HN.out]; exact HCP.out⟩⟩
end Go.Proofs.Ytcojckgmmklffaa
