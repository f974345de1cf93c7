/- The reference's Size; SameAll. -/
import Derived.Test.YtpgbinijocbfmaaP5
import Derived.Test.YtpgbinijocbfmaaE2
namespace Go.Proofs.Ytpgbinijocbfmaa
open Go.RowKit Go
set_option linter.unusedVariables false
set_option linter.unusedSimpArgs false

theorem sizeS_take (rs : List Rc) (k : Nat) (h : k < rs.length) : sizeS (rs.take (k + 1)) = sizeS (rs.take k) + (rs[k].key.length + rs[k].val.length + 16) := by
  unfold sizeS
  rw [List.take_succ_eq_append_getElem h, List.map_append, List.sum_append]
  simp only [List.map_cons, List.map_nil, List.sum_cons, List.sum_nil]
  omega
theorem sizeS_le (rs : List Rc) (k : Nat) : sizeS (rs.take k) ≤ sizeS rs := by
  conv => rhs; rw [← List.take_append_drop k rs]
  unfold sizeS
  rw [List.map_append, List.sum_append]
  omega

set_option maxHeartbeats 1600000 in
theorem size_ref (V : Nat → Prop) (R : Nat) (qs : List El) (high : Nat) (w : World) (h : RefIs w V R qs high) (hn : qs.length ≤ 1048576) (hs : sizeS (qs.map El.r) ≤ 1099511627776) :
    Calls Try.prog 14 #[ptr R] w fun e w' => e = .returned (.int .i64 (sizeS (qs.map El.r) : Nat)) ∧ ∃ n, w' = w.drewN n := by
  have HH := Lib.hid h
  obtain ⟨lv, hbox, hrow⟩ := h.box
  obtain ⟨Al, cl, rfl⟩ := hrow.form
  have HBOX := Lib.hid hbox; have HROW := Lib.hid hrow
  clear h hbox hrow
  obtain ⟨N, hN⟩ : ∃ N, qs.length = N := ⟨_, rfl⟩
  have HN := Lib.hid hN
  rw [hN] at hn
  have HBX2 : Hid (w.heap[R]? = some (.cells #[.slice Al N cl, .int .i64 high] 30 (0, 0))) := by have := HBOX.out; rw [hN] at this; exact this
  clear hN HBOX
  unfold ptr
  go_enter Try.func14, Try.ntmps14
  go_wp2_with fail
  go_loopg [3, 4] N (fun g vn vi wr => ∃ k : Nat, g = N - k ∧ k ≤ N ∧ vi = .int .i64 k ∧ vn = .int .i64 (sizeS ((qs.map El.r).take k) : Nat) ∧ ∃ n, wr = w.drewN n)
  case atStart => exact ⟨0, rfl, by omega, rfl, rfl, 0, rfl⟩
  case round =>
    obtain ⟨k, hgk, hk, rfl, rfl, n, rfl⟩ := hrel
    have HG := Lib.hid hgk; clear hgk
    obtain ⟨p0, p1, p2⟩ := cells2 HBX2.out
    by_cases hlt : k < N
    · have hlt' : k < qs.length := by have := HN.out; omega
      obtain ⟨_, _, e1, hcap, hrw⟩ := HROW.out
      injection e1 with e1 e2 e3; subst e1 e3
      obtain ⟨b, off, rfl, hbV, hbt, hcl⟩ := hrw (by omega)
      obtain ⟨r0, r1, r2, r3⟩ := row_at hcl hlt'
      have hel := HH.out.els qs[k] (List.getElem_mem hlt')
      obtain ⟨⟨Ak, ck, ek, _⟩, ⟨Av, cv, ev, _⟩⟩ := hel
      rw [ek] at r0; rw [ev] at r3
      have hst := sizeS_take (qs.map El.r) k (by simpa using hlt')
      have hle := sizeS_le (qs.map El.r) (k + 1)
      simp only [List.getElem_map] at hst
      obtain ⟨kl, hkl⟩ : ∃ m, qs[k].r.key.length = m := ⟨_, rfl⟩
      obtain ⟨vl, hvl⟩ : ∃ m, qs[k].r.val.length = m := ⟨_, rfl⟩
      rw [hkl] at r0 hst; rw [hvl] at r3 hst
      obtain ⟨s, hs0⟩ : ∃ m, sizeS ((qs.map El.r).take k) = m := ⟨_, rfl⟩
      rw [hs0] at hst ⊢
      have HST := Lib.hid hst
      have hb1 : s + (kl + vl + 16) ≤ 1099511627776 := by omega
      clear hst hle hkl hvl hs0 ek ev hcl hbt hbV hcap e2 r1 r2
      have i1 : (0 : Int) ≤ (k : Int) := by omega
      have i2 : (k : Int) < (N : Int) := by omega
      have j1 : (0 : Int) ≤ (s : Int) := by omega
      have j2 : (0 : Int) ≤ (kl : Int) := by omega
      have j3 : (0 : Int) ≤ (vl : Int) := by omega
      have j4 : (s : Int) + (kl + vl + 16) ≤ 1099511627776 := by omega
      have e1 : IntKind.i64.wrap ((s : Int) + (kl : Int)) = (s : Int) + (kl : Int) := IntWalk.i64_in _ (by omega)
      have e2 : IntKind.i64.wrap ((s : Int) + (kl : Int) + (vl : Int)) = (s : Int) + (kl : Int) + (vl : Int) := IntWalk.i64_in _ (by omega)
      have e3 : IntKind.i64.wrap ((s : Int) + (kl : Int) + (vl : Int) + 16) = (s : Int) + (kl : Int) + (vl : Int) + 16 := IntWalk.i64_in _ (by omega)
      go_wp2_with fail
      go_quiet (fail)
      clear e1 e2 e3
      go_wp2_with fail
      go_roundg (N - (k + 1))
      case measure => have := HG.out; omega
      case rel => exact ⟨k + 1, rfl, by omega, by go_num, by rw [HST.out]; go_num, _, rfl⟩
    · have hkN : k = N := by omega
      subst hkN
      have HK : Hid ((qs.map El.r).take k = qs.map El.r) := List.take_of_length_le (by have := HN.out; simp; omega)
      rw [HK.out]
      go_wp2_with fail
      go_ret
      exact ⟨rfl, _, rfl⟩

end Go.Proofs.Ytpgbinijocbfmaa
