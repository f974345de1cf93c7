/- The reference's All. -/
import Derived.Test.YtfcemlcocdhmfaaHT2
namespace Go.Proofs.Ytfcemlcocdhmfaa
open Go.RowKit Go
set_option linter.unusedVariables false
set_option linter.unusedSimpArgs false
theorem sum_take {α : Type} (f : α → Nat) : ∀ (l : List α) (k : Nat), ((l.take k).map f).sum ≤ (l.map f).sum
  | [], k => by simp
  | a :: l, 0 => by simp
  | a :: l, k + 1 => by
    rw [List.take_succ_cons, List.map_cons, List.map_cons, List.sum_cons, List.sum_cons]; have := sum_take f l k; omega
set_option maxHeartbeats 3200000 in
theorem refAll_any (A : Option Addr) (n c : Nat) (ls : List Lst) (w : World) (h : LstsB w A n ls) (hn : n < 1000000) (htot : (ls.map fun x => x.2.length).sum ≤ 1000000000) :
    Calls Try.prog 12 #[.slice A n c] w (Alls ls w) := by
  have H := Lib.hid h; have HN : Hid (ls.length = n) := h.1; have HTOT := Lib.hid htot
  clear h htot
  go_enter Try.func12, Try.ntmps12
  go_wp2_with fail
  go_loopg [5] n (fun q vi wr => ∃ (k : Nat), q = n - k ∧ k ≤ n ∧ vi = .int .i64 k ∧ (∀ x ∈ ls.take k, inO (recs x) = true) ∧ Below w.heap.size w wr)
  case atStart => exact ⟨0, rfl, Nat.zero_le _, rfl, by simp, Below.refl _ _⟩
  case round =>
    obtain ⟨k, hq, hk, rfl, hio, hb⟩ := hrel
    have HQ := Lib.hid hq; have HIO := Lib.hid hio; have HB := Lib.hid hb
    clear hq hio hb
    by_cases hlt : k < n
    · have hkl : k < ls.length := by rw [HN.out]; exact hlt
      obtain ⟨b, off, A', n', c', rfl, e1, e2, hc, hrow, hlen⟩ := H.out.at_ HB.out hkl
      have i1 : (0 : Int) ≤ (k : Int) := by omega
      have i2 : (k : Int) < (n : Int) := by omega
      have HTK : Hid (ls.take (k + 1) = ls.take k ++ [ls[k]]) := List.take_succ_eq_append_getElem hkl
      have HXM : Hid (ls[k] ∈ ls) := Lib.hid (List.getElem_mem hkl)
      generalize ls[k] = x at *
      obtain ⟨lv, els⟩ := x
      dsimp only at e1 e2 hrow hlen
      subst e1
      have hin := inOrder_ref (.slice A' n' c') els wr hrow hlen
      clear e2 hrow hlen
      by_cases hio : inO (els.map El.r) = true
      · rw [hio] at hin
        have HIN := Lib.hid hin; have HIO2 := Lib.hid hio
        clear hin hio
        go_wp2_with fail
        refine HIN.out.mono ?_; rintro e w1 ⟨rfl, hw1⟩
        have HB1 := Lib.hid (HB.out.trans (hw1.mono HB.out.size))
        clear hw1 hc
        go_wp2_with fail
        go_roundg (n - (k + 1))
        case measure => have := HQ.out; omega
        case rel => exact ⟨k + 1, rfl, by omega, by go_num, by
            intro x hx
            rw [HTK.out, List.mem_append, List.mem_singleton] at hx
            rcases hx with hx | hx
            · exact HIO.out x hx
            · rw [hx]; exact HIO2.out, HB1.out⟩
      · have hio' : inO (els.map El.r) = false := by simpa using hio
        rw [hio'] at hin
        have HIN := Lib.hid hin; have HIO2 := Lib.hid hio'
        clear hin hio hio'
        go_wp2_with fail
        refine HIN.out.mono ?_; rintro e w1 ⟨rfl, hw1⟩
        have HB1 := Lib.hid (HB.out.trans (hw1.mono HB.out.size))
        clear hw1 hc
        go_wp2_with fail
        go_ret2
        refine ⟨?_, HB1.out⟩
        rw [if_neg (fun h => by have := h _ HXM.out; rw [show recs _ = els.map El.r from rfl, HIO2.out] at this; exact Bool.noConfusion this)]
        rfl
    · have hkn : k = n := by omega
      subst hkn
      have HIO2 : Hid (∀ x ∈ ls, inO (recs x) = true) := Lib.hid (by have := HIO.out; rwa [List.take_of_length_le (by rw [HN.out]; exact Nat.le_refl _)] at this)
      clear HIO
      have n1 : ¬ ((k : Int) < (k : Int)) := by omega
      go_wp2_with fail
      go_loopg [4, 7] k (fun q vo vi wx => ∃ (j : Nat) (os : List El), q = k - j ∧ j ≤ k ∧ vi = .int .i64 j ∧ IsMerge ord2 (LL (ls.take j)) (os.map El.r) ∧ RowB wx vo os ∧ (∀ q ∈ os, LenR q) ∧ os.length ≤ ((ls.take j).map fun x => x.2.length).sum ∧ Below w.heap.size w wx)
      case atStart => exact ⟨0, [], rfl, Nat.zero_le _, rfl, merge_nil, ⟨none, 0, rfl, Nat.le_refl _, Rd.nil, by simp⟩, by simp, by simp, HB.out⟩
      case round =>
        obtain ⟨j, os, hq, hj, rfl, him, hrow, hl, hsum, hb⟩ := hrel
        clear HB
        have HQ := Lib.hid hq; have HIM := Lib.hid him; have HROW := Lib.hid hrow; have HLO := Lib.hid hl; have HSUM := Lib.hid hsum; have HB := Lib.hid hb
        obtain ⟨Ao, co, rfl⟩ := hrow.form
        clear hq him hrow hl hsum hb
        by_cases hlt : j < k
        · have hkl : j < ls.length := by rw [HN.out]; exact hlt
          obtain ⟨b, off, A', n', c', rfl, e1, e2, hc, hrow, hlen⟩ := H.out.at_ HB.out hkl
          have i1 : (0 : Int) ≤ (j : Int) := by omega
          have i2 : (j : Int) < (k : Int) := by omega
          have HTK : Hid (ls.take (j + 1) = ls.take j ++ [ls[j]]) := List.take_succ_eq_append_getElem hkl
          have HXM : Hid (ls[j] ∈ ls) := Lib.hid (List.getElem_mem hkl)
          have hs1 := sum_take (fun x : Lst => x.2.length) ls (j + 1)
          have hs0 := sum_take (fun x : Lst => x.2.length) ls j
          have HS2 : Hid (((ls.take (j + 1)).map fun x => x.2.length).sum = ((ls.take j).map fun x => x.2.length).sum + ls[j].2.length) := Lib.hid (by rw [HTK.out, List.map_append, List.sum_append]; simp)
          have hla : os.length ≤ 1000000000 := by have := HSUM.out; have := HTOT.out; omega
          have hlb : ls[j].2.length ≤ 1000000000 := by have := HS2.out; have := HTOT.out; omega
          clear hs1 hs0
          generalize ls[j] = x at *
          obtain ⟨lv, els⟩ := x
          dsimp only at e1 e2 hrow hlen hlb
          subst e1
          have HTW := Lib.hid (two_any _ _ os els wr HROW.out hrow hla hlb)
          have HBS : Hid (∀ q ∈ els, Bs wr wr.heap.size q.kv q.r.key ∧ Bs wr wr.heap.size q.vv q.r.val) := Lib.hid hrow.bs
          clear e2 hrow hlen hla hlb
          go_wp2_with fail
          refine HTW.out.mono ?_; rintro e w1 ⟨⟨v1, rfl, ho1⟩, hw1⟩
          have HR1 := Lib.hid (ho1.row hw1 (fun q hq => by
            rcases two_sub os els q hq with h | h
            · exact HROW.out.bs q h
            · exact HBS.out q h))
          have HB1 := Lib.hid (HB.out.trans (hw1.mono HB.out.size))
          clear hw1 hc ho1
          go_wp2_with fail
          go_roundg (k - (j + 1))
          case measure => have := HQ.out; omega
          case rel => exact ⟨j + 1, two oE os els, rfl, by omega, by go_num, by
              rw [HTK.out, two_map]
              have := HIM.out.snoc toOrd (l := els.map El.r) (inO_srt (HIO2.out _ HXM.out))
              unfold LL at this ⊢
              rw [List.map_append]; exact this, HR1.out, fun q hq => by
              rcases two_sub os els q hq with h | h
              · exact HLO.out q h
              · exact (H.out.2.2 _ HXM.out).2.2 q h, by rw [HS2.out]; have := two_len os els; have := HSUM.out; omega, HB1.out⟩
        · have hkn : j = k := by omega
          subst hkn
          have HE : Hid (IsMerge ord2 (LL ls) (os.map El.r)) := Lib.hid (by have := HIM.out; rwa [List.take_of_length_le (by rw [HN.out]; exact Nat.le_refl _)] at this)
          go_wp2_with fail
          go_ret2
          exact ⟨by rw [if_pos HIO2.out]; exact ⟨_, os, rfl, HROW.out, HE.out, HLO.out⟩, HB.out⟩
end Go.Proofs.Ytfcemlcocdhmfaa
