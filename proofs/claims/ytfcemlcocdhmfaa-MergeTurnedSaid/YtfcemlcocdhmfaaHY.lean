/- InOrder of a list of any length. -/
import Derived.Test.YtfcemlcocdhmfaaA3
namespace Go.Proofs.Ytfcemlcocdhmfaa
open Go.RowKit Go
set_option linter.unusedVariables false
set_option linter.unusedSimpArgs false

set_option maxHeartbeats 1600000 in
theorem inOrder_refw (v : Value) (qs : List El) (w : World) (h : RowB w v qs) (hn : qs.length ≤ 9223372036854775807) :
    Calls Try.prog 14 #[v] w fun e w' => e = .returned (.bool (inO (qs.map El.r))) ∧ Below w.heap.size w w' := by
  obtain ⟨A, c, rfl⟩ := h.form
  have HR := Lib.hid h; clear h
  obtain ⟨N, hN⟩ : ∃ N, qs.length = N := ⟨_, rfl⟩
  have HN := Lib.hid hN
  rw [hN] at hn HR ⊢
  clear hN
  go_enter Try.func14, Try.ntmps14
  go_wp2_with fail
  go_loopg [3] N (fun g vi wr => ∃ k : Nat, g = N - k ∧ vi = .int .i64 ((k : Int) + 1) ∧ (k = 0 ∨ k < N) ∧ (∀ j a b, j < k → (qs.map El.r)[j]? = some a → (qs.map El.r)[j + 1]? = some b → ord2 a b < 0) ∧ Below w.heap.size w wr)
  case atStart => exact ⟨0, by omega, rfl, .inl rfl, by intro j a b hj; omega, Below.refl _ _⟩
  case round =>
    obtain ⟨k, hgk, rfl, hk, hall, hB⟩ := hrel
    have HG := Lib.hid hgk; have HALL := Lib.hid hall; have HB := Lib.hid hB
    have HR2 := Lib.hid (HR.out.up hB)
    clear hgk hall hB
    by_cases hlt : k + 1 < N
    · have hl1 : k < qs.length := by have := HN.out; omega
      have hl2 : k + 1 < qs.length := by have := HN.out; omega
      obtain ⟨b, off, rfl, hb, r0, r1, r2, r3⟩ := HR2.out.at_ hl1
      obtain ⟨s0, s1, s2, s3⟩ := HR2.out.at2 hl2
      have I1 := Lib.hid (HR2.out.rec hl1); have I2 := Lib.hid (HR2.out.rec hl2)
      have g1 : (qs.map El.r)[k]? = some qs[k].r := by simp [hl1]
      have g2 : (qs.map El.r)[k + 1]? = some qs[k + 1].r := by simp [hl2]
      have G1 := Lib.hid g1; have G2 := Lib.hid g2
      clear g1 g2
      generalize qs[k] = q at *
      generalize qs[k + 1] = p at *
      obtain ⟨o, ho⟩ : ∃ o, ord2 q.r p.r = o := ⟨_, rfl⟩
      have HO := Lib.hid ho; clear ho
      have hsub : IntKind.i64.wrap ((k : Int) + 1 - 1) = (k : Int) := by rw [IntWalk.i64_in _ (by omega)]; omega
      have hsub2 : IntKind.i64.wrap (k : Int) = (k : Int) := IntWalk.i64_in _ (by omega)
      have hnat : ((k : Int) + 1).toNat = k + 1 := by omega
      have i1 : (0 : Int) ≤ (k : Int) := by omega
      have i2 : (k : Int) < (N : Int) := by omega
      have i3 : (0 : Int) ≤ (k : Int) + 1 := by omega
      have i4 : (k : Int) + 1 < (N : Int) := by omega
      by_cases hneg : o < 0
      · have HD : Hid (decide (ordS q.r p.r.key p.r.seq < 0) = true) := by show _ = _; have := HO.out; unfold ord2 at this; rw [this]; simpa using hneg
        go_wp2_with fail
        go_region_held3 (fun w' => w'.cell? ⟨b, off + k * 4, none⟩ = some q.kv ∧ w'.cell? ⟨b, off + k * 4 + 1, none⟩ = some (.int .i64 q.r.seq) ∧ w'.cell? ⟨b, off + k * 4 + 2, none⟩ = some (.bool q.r.del) ∧ w'.cell? ⟨b, off + k * 4 + 3, none⟩ = some q.vv ∧
            w'.cell? ⟨b, off + (k + 1) * 4, none⟩ = some p.kv ∧ w'.cell? ⟨b, off + (k + 1) * 4 + 1, none⟩ = some (.int .i64 p.r.seq) ∧ w'.cell? ⟨b, off + (k + 1) * 4 + 2, none⟩ = some (.bool p.r.del) ∧ w'.cell? ⟨b, off + (k + 1) * 4 + 3, none⟩ = some p.vv)
          ((first | (with_reducible exact ⟨r0, r1, r2, r3, s0, s1, s2, s3⟩) | exact ⟨r0, r1, r2, r3, s0, s1, s2, s3⟩ | exact ⟨(hcB _ hb).trans r0, (hcB _ hb).trans r1, (hcB _ hb).trans r2, (hcB _ hb).trans r3, (hcB _ hb).trans s0, (hcB _ hb).trans s1, (hcB _ hb).trans s2, (hcB _ hb).trans s3⟩))
          ((go_at_call 29; refine (ahead_any q.r p.r _ _ wr.drew I1.out I2.out).mono ?_; rintro e w2 ⟨rfl, hw2⟩; have hcB := fun (a : Addr) (hp : a.block < wr.heap.size) => hw2.cell hp; have HW2 := Lib.hid hw2; clear hw2; rw [HD.out]))
        clear hsub hsub2 hnat hcB r0 r1 r2 r3 s0 s1 s2 s3
        go_wp2_with fail
        go_roundg (N - (k + 1))
        case measure => have := HG.out; omega
        case rel => exact ⟨k + 1, rfl, by go_num, .inr (by omega), fun j a b' hj ha hb' => by
          rcases Nat.lt_or_ge j k with h | h
          · exact HALL.out j a b' h ha hb'
          · obtain rfl : j = k := by omega
            rw [G1.out] at ha; rw [G2.out] at hb'
            injection ha with ha; injection hb' with hb'
            rw [← ha, ← hb', HO.out]; exact hneg, HB.out.trans ((Below.refl _ _).drew.trans HW2.out |>.mono HB.out.size)⟩
      · have hpos : 0 ≤ o := by omega
        have HD : Hid (decide (ordS q.r p.r.key p.r.seq < 0) = false) := by show _ = _; have := HO.out; unfold ord2 at this; rw [this]; simpa using hneg
        go_wp2_with fail
        go_region_held3 (fun w' => w'.cell? ⟨b, off + k * 4, none⟩ = some q.kv ∧ w'.cell? ⟨b, off + k * 4 + 1, none⟩ = some (.int .i64 q.r.seq) ∧ w'.cell? ⟨b, off + k * 4 + 2, none⟩ = some (.bool q.r.del) ∧ w'.cell? ⟨b, off + k * 4 + 3, none⟩ = some q.vv ∧
            w'.cell? ⟨b, off + (k + 1) * 4, none⟩ = some p.kv ∧ w'.cell? ⟨b, off + (k + 1) * 4 + 1, none⟩ = some (.int .i64 p.r.seq) ∧ w'.cell? ⟨b, off + (k + 1) * 4 + 2, none⟩ = some (.bool p.r.del) ∧ w'.cell? ⟨b, off + (k + 1) * 4 + 3, none⟩ = some p.vv)
          ((first | (with_reducible exact ⟨r0, r1, r2, r3, s0, s1, s2, s3⟩) | exact ⟨r0, r1, r2, r3, s0, s1, s2, s3⟩ | exact ⟨(hcB _ hb).trans r0, (hcB _ hb).trans r1, (hcB _ hb).trans r2, (hcB _ hb).trans r3, (hcB _ hb).trans s0, (hcB _ hb).trans s1, (hcB _ hb).trans s2, (hcB _ hb).trans s3⟩))
          ((go_at_call 29; refine (ahead_any q.r p.r _ _ wr.drew I1.out I2.out).mono ?_; rintro e w2 ⟨rfl, hw2⟩; have hcB := fun (a : Addr) (hp : a.block < wr.heap.size) => hw2.cell hp; have HW2 := Lib.hid hw2; clear hw2; rw [HD.out]))
        clear hsub hsub2 hnat hcB r0 r1 r2 r3 s0 s1 s2 s3
        have HF : Hid (inO (qs.map El.r) = false) := by
          show _ = _
          rw [Bool.eq_false_iff]
          intro hi
          have := (inO_iff _).1 hi k _ _ G1.out G2.out
          rw [HO.out] at this
          omega
        go_wp2_with fail
        go_ret
        exact ⟨ret_bool (by rw [HF.out]), HB.out.trans ((Below.refl _ _).drew.trans HW2.out |>.mono HB.out.size)⟩
    · go_wp2_with fail
      go_ret
      refine ⟨ret_bool ?_, HB.out⟩
      refine (inO_iff _).2 ?_
      intro j a b ha hb
      have hj : j + 1 < (qs.map El.r).length := (List.getElem?_eq_some_iff.1 hb).1
      have hl : (qs.map El.r).length = N := by rw [List.length_map]; exact HN.out
      exact HALL.out j a b (by omega) ha hb

end Go.Proofs.Ytfcemlcocdhmfaa
