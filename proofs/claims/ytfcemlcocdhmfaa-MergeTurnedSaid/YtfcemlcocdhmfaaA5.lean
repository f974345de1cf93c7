/- The first record of a group that is not behind a moment. -/
import Derived.Test.YtfcemlcocdhmfaaA4
namespace Go.Proofs.Ytfcemlcocdhmfaa
open Go.RowKit Go
set_option linter.unusedVariables false
set_option linter.unusedSimpArgs false

set_option maxHeartbeats 800000 in
theorem at11_any (r : Rc) (v : Value) (g : Nat) (seq : Int) (w : World) (hv : IsRc w w.heap.size v r) (hs : w.cell? ⟨g, 0, none⟩ = some (.int .i64 seq)) :
    Calls Try.prog 34 #[v, .pointer (some ⟨g, 0, none⟩)] w fun e w' => e = .returned (.bool (decide (r.seq ≤ seq))) ∧ Below w.heap.size w w' := by
  obtain ⟨k1, v1, rfl, hk, hvv⟩ := hv
  have hg : g < w.heap.size := World.block_lt_of_cell? w _ hs
  go_enter Try.func34, Try.ntmps34
  go_wp2_with fail
  go_ret
  exact ⟨by first | rfl | simp, (by repeat' (first | (with_reducible exact Below.refl _ _) | (with_reducible refine Below.alloc ?_ ?_ _) | (with_reducible refine below_drewN ?_ _) | (with_reducible refine Below.drew ?_) | (with_reducible refine Below.setCell ?_ ?_ _) | (with_reducible refine Below.trans ?_ (Below.mono HW0.out ?_)) | (with_reducible refine Below.trans ?_ (Below.mono HW1.out ?_)) | (with_reducible refine Below.trans ?_ (Below.mono HW2.out ?_)) | (with_reducible refine Below.trans ?_ (Below.mono HW3.out ?_)) | (with_reducible refine Below.trans ?_ (Below.mono HW4.out ?_)) | (with_reducible refine Below.trans ?_ (Below.mono HW5.out ?_)) | (with_reducible refine Below.trans ?_ (Below.mono HW6.out ?_)) | (with_reducible refine Below.trans ?_ (Below.mono HW7.out ?_)) | (with_reducible exact Nat.le_refl _) | omega | (simp only [World.size_alloc, World.size_setCell, World.size_drew, size_drewN]; omega) | (simp; done) | (simp; omega)))⟩

/-- The first place at which a record is not behind a moment, from k on; -1, if there is none. -/
def firstAt (seq : Int) : Nat → List Rc → Int
  | _, [] => -1
  | k, r :: rs => if r.seq ≤ seq then k else firstAt seq (k + 1) rs

set_option maxHeartbeats 1600000 in
theorem indexFunc_any (v : Value) (qs : List El) (g : Nat) (seq : Int) (w : World) (h : RowB w v qs) (hn : qs.length ≤ 1099511627776) (hs : w.cell? ⟨g, 0, none⟩ = some (.int .i64 seq)) :
    Calls Try.prog 33 #[v, .func (.func 34) #[] #[.pointer (some ⟨g, 0, none⟩)]] w fun e w' => e = .returned (.int .i64 (firstAt seq 0 (qs.map El.r))) ∧ Below w.heap.size w w' := by
  obtain ⟨A, c, rfl⟩ := h.form
  have HR := Lib.hid h; clear h
  have hg : g < w.heap.size := World.block_lt_of_cell? w _ hs
  have HSEQ := Lib.hid hs; clear hs
  obtain ⟨N, hN⟩ : ∃ N, qs.length = N := ⟨_, rfl⟩
  have HN := Lib.hid hN
  rw [hN] at hn HR ⊢
  clear hN
  go_enter Try.func33, Try.ntmps33
  go_wp2_with fail
  go_loopg [5, 8] N (fun g' v5 v8 wr => ∃ k : Nat, g' = N - k ∧ k ≤ N ∧ v8 = .int .i64 k ∧ firstAt seq 0 (qs.map El.r) = firstAt seq k ((qs.map El.r).drop k) ∧ Below w.heap.size w wr)
  case atStart => exact ⟨0, rfl, by omega, rfl, rfl, Below.refl _ _⟩
  case round =>
    obtain ⟨k, hgk, hk, rfl, hf, hB⟩ := hrel
    have HG := Lib.hid hgk; have HF := Lib.hid hf; have HB := Lib.hid hB
    have HR2 := Lib.hid (HR.out.up hB)
    have HS2 := Lib.hid ((hB.cell (p := ⟨g, 0, none⟩) hg).trans HSEQ.out)
    clear hgk hf hB
    by_cases hlt : k < N
    · have hl1 : k < qs.length := by have := HN.out; omega
      obtain ⟨b, off, rfl, hb, r0, r1, r2, r3⟩ := HR2.out.at_ hl1
      have I1 := Lib.hid (HR2.out.rec hl1)
      have hd : (qs.map El.r).drop k = qs[k].r :: (qs.map El.r).drop (k + 1) := by
        rw [List.drop_eq_getElem_cons (by simpa using hl1)]; simp
      rw [hd] at HF
      clear hd
      generalize qs[k] = q at *
      have i1 : (0 : Int) ≤ (k : Int) := by omega
      have i2 : (k : Int) < (N : Int) := by omega
      by_cases hq : q.r.seq ≤ seq
      · have HF2 : Hid (firstAt seq 0 (qs.map El.r) = k) := by show _ = _; rw [HF.out, firstAt, if_pos hq]
        have hdt : decide (q.r.seq ≤ seq) = true := by simpa using hq
        have HD := Lib.hid hdt; clear hdt hq HF
        go_wp2_with fail
        refine (at11_any q.r _ g seq wr I1.out HS2.out).mono ?_; rintro e w1 ⟨rfl, hw1⟩
        rw [HD.out]
        have HB2 := Lib.hid (HB.out.trans (hw1.mono HB.out.size)); clear hw1 r0 r1 r2 r3
        go_wp2_with fail
        go_ret
        exact ⟨by rw [HF2.out]; first | done | rfl, HB2.out⟩
      · have HF2 : Hid (firstAt seq 0 (qs.map El.r) = firstAt seq (k + 1) ((qs.map El.r).drop (k + 1))) := by show _ = _; rw [HF.out, firstAt, if_neg hq]
        have hdt : decide (q.r.seq ≤ seq) = false := by simpa using hq
        have HD := Lib.hid hdt; clear hdt hq HF
        go_wp2_with fail
        refine (at11_any q.r _ g seq wr I1.out HS2.out).mono ?_; rintro e w1 ⟨rfl, hw1⟩
        rw [HD.out]
        have HB2 := Lib.hid (HB.out.trans (hw1.mono HB.out.size)); clear hw1 r0 r1 r2 r3
        go_wp2_with fail
        go_roundg (N - (k + 1))
        case measure => have := HG.out; omega
        case rel => exact ⟨k + 1, rfl, by omega, by go_num, HF2.out, HB2.out⟩
    · have hkN : k = N := by omega
      subst hkN
      have HF2 : Hid (firstAt seq 0 (qs.map El.r) = -1) := by
        show _ = _
        rw [HF.out, List.drop_of_length_le (by have := HN.out; simp; omega)]; rfl
      go_wp2_with fail
      go_ret
      exact ⟨by rw [HF2.out]; rfl, HB.out⟩
end Go.Proofs.Ytfcemlcocdhmfaa
