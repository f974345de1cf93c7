/- Two rows of pairs: are they the same? -/
import Derived.Test.YtfcemlcocdhmfaaAT3
import Derived.Deep.RegionHeld3
import Derived.Deep.LoopGhost
import Derived.Deep.Cut
import Derived.Deep.CutRange
namespace Go.Proofs.Ytfcemlcocdhmfaa
open Go.RowKit Go
set_option linter.unusedVariables false
set_option linter.unusedSimpArgs false

theorem take_sameP {qs ps : List Pr} {k : Nat} (h : (qs.map Pr.p).take k = (ps.map Pr.p).take k) (h1 : k < qs.length) (h2 : k < ps.length) (he : qs[k].p = ps[k].p) : (qs.map Pr.p).take (k + 1) = (ps.map Pr.p).take (k + 1) := by
  rw [List.take_succ_eq_append_getElem (by simpa using h1), List.take_succ_eq_append_getElem (by simpa using h2), h]
  simp [he]
set_option maxHeartbeats 1600000 in
theorem sameAllP (u v : Value) (qs ps : List Pr) (w : World) (hu : RowP w u qs) (hv : RowP w v ps) (hql : qs.length ≤ 1099511627776) (hpl : ps.length ≤ 1099511627776) :
    Calls Try.prog 15 #[u, v] w fun e w' => e = .returned (.bool (decide (qs.map Pr.p = ps.map Pr.p))) ∧ Below w.heap.size w w' := by
  have HU0 := Lib.hid hu; have HV0 := Lib.hid hv
  obtain ⟨A, c, rfl⟩ := hu.form
  obtain ⟨A', c', rfl⟩ := hv.form
  clear hu hv
  by_cases hl : qs.length = ps.length
  · obtain ⟨N, hN⟩ : ∃ N, qs.length = N := ⟨_, rfl⟩
    have HN := Lib.hid hN
    have HM : Hid (ps.length = N) := hl.symm.trans hN
    rw [← hl] at HV0 ⊢
    rw [hN] at HV0 hql ⊢
    have HU1 : Hid (RowP w (.slice A N c) qs) := by rw [← hN]; exact HU0.out
    clear HU0 hl hN hpl
    go_enter Try.func15, Try.ntmps15
    go_wp2_with fail
    go_loopg [5] N (fun g vi wr => ∃ k : Nat, g = N - k ∧ k ≤ N ∧ vi = .int .i64 k ∧ (qs.map Pr.p).take k = (ps.map Pr.p).take k ∧ Below w.heap.size w wr)
    case atStart => exact ⟨0, rfl, by omega, rfl, rfl, Below.refl _ _⟩
    case round =>
      obtain ⟨k, hgk, hk, rfl, hsm, hB⟩ := hrel
      have HG := Lib.hid hgk; have HSM := Lib.hid hsm; have HB := Lib.hid hB
      clear hgk hsm hB
      by_cases hlt : k < N
      · have hlt1 : k < qs.length := by have := HN.out; omega
        have hlt2 : k < ps.length := by have := HM.out; omega
        have hu1 := HU1.out.up HB.out; have hv1 := HV0.out.up HB.out
        obtain ⟨b, off, rfl, zb, r0, r1⟩ := hu1.at_ hlt1
        obtain ⟨g, off', rfl, zg, s0, s1⟩ := hv1.at_ hlt2
        have hsz := HB.out.size
        have hel := hu1.bs hlt1
        have hel' := hv1.bs hlt2
        have E1 := Lib.hid hel.1; have E2 := Lib.hid hel.2; have E3 := Lib.hid hel'.1; have E4 := Lib.hid hel'.2
        clear hel hel' hu1 hv1
        have TS := fun he => Lib.hid (take_sameP HSM.out hlt1 hlt2 he)
        have TN : Hid (¬ qs[k].p = ps[k].p → ¬ qs.map Pr.p = ps.map Pr.p) := fun hne he => hne (by
          have h1 : (qs.map Pr.p)[k]? = (ps.map Pr.p)[k]? := by rw [he]
          simpa [hlt1, hlt2] using h1)
        generalize qs[k] = q at *
        generalize ps[k] = p at *
        have TS' := Lib.hid TS; clear TS
        have i1 : (0 : Int) ≤ (k : Int) := by omega
        have i2 : (k : Int) < (N : Int) := by omega
        have zb' := zb; have zg' := zg
        obtain ⟨x, hx⟩ : ∃ x, decide (q.p = p.p) = x := ⟨_, rfl⟩
        have HX := Lib.hid hx; clear hx
        go_wp2_with fail
        go_cut [6] from 12 to 26 (fun v wc => v = .bool x ∧ Below wr.heap.size wr wc)
        case first =>
          go_region_held3 (fun w' => w'.cell? ⟨b, off + k * 2, none⟩ = some q.kv ∧ w'.cell? ⟨b, off + k * 2 + 1, none⟩ = some q.vv ∧ w'.cell? ⟨g, off' + k * 2, none⟩ = some p.kv ∧ w'.cell? ⟨g, off' + k * 2 + 1, none⟩ = some p.vv)
            ((first | (with_reducible exact ⟨r0, r1, s0, s1⟩) | exact ⟨r0, r1, s0, s1⟩ | exact ⟨(hcB _ zb').trans r0, (hcB _ zb').trans r1, (hcB _ zg').trans s0, (hcB _ zg').trans s1⟩))
            ((go_at_call 30; refine (same10_any q.p p.p _ _ _ _ wr.drew E1.out E2.out E3.out E4.out).mono ?_; rintro e w2 ⟨rfl, hw2⟩; have hcB := fun (a : Addr) (hp : a.block < wr.heap.size) => hw2.cell hp; have HW2 := Lib.hid hw2; clear hw2; rw [HX.out]))
          go_wp2_with fail
          go_meet
          exact ⟨rfl, (Below.refl _ _).drew.trans HW2.out⟩
        case rest =>
          obtain ⟨rfl, hw4⟩ := hcut
          have HB4 := Lib.hid (HB.out.trans (hw4.mono HB.out.size))
          clear hw4 r0 r1 s0 s1
          cases x with
          | true =>
            have he : q.p = p.p := by have := HX.out; simpa using this
            have HT := TS'.out he
            clear he TS'
            go_wp2_with fail
            go_roundg (N - (k + 1))
            case measure => have := HG.out; omega
            case rel => exact ⟨k + 1, rfl, by omega, by go_num, HT.out, HB4.out⟩
          | false =>
            have hne : ¬ q.p = p.p := by have := HX.out; simpa using this
            have HT := Lib.hid (TN.out hne)
            clear hne TN TS'
            go_wp2_with fail
            go_ret
            exact ⟨ret_bool (by simpa using HT.out), HB4.out⟩
      · have hkN : k = N := by omega
        subst hkN
        have HF : Hid (qs.map Pr.p = ps.map Pr.p) := by
          have := HSM.out
          rw [List.take_of_length_le (by have := HN.out; simp; omega), List.take_of_length_le (by have := HM.out; simp; omega)] at this
          exact this
        go_wp2_with fail
        go_ret
        exact ⟨ret_bool (by simpa using HF.out), HB.out⟩
  · have hne : ((qs.length : Int) != (ps.length : Int)) = true := by simp; omega
    have hl' : ¬ (qs.length : Int) = (ps.length : Int) := by omega
    have HF : Hid (¬ qs.map Pr.p = ps.map Pr.p) := fun he => hl (by have := congrArg List.length he; simpa using this)
    go_enter Try.func15, Try.ntmps15
    go_wp2_with fail
    go_ret
    exact ⟨ret_bool (by simpa using HF.out), Below.refl _ _⟩
end Go.Proofs.Ytfcemlcocdhmfaa
