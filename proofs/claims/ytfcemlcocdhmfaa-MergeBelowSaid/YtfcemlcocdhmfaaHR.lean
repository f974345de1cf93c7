/- Two rows of records, whatever their blocks: are they the same? -/
import Derived.Test.YtfcemlcocdhmfaaHP
import Derived.Deep.RegionHeld3
import Derived.Deep.LoopGhost
import Derived.Deep.Cut
import Derived.Deep.CutRange
namespace Go.Proofs.Ytfcemlcocdhmfaa
open Go.RowKit Go
set_option linter.unusedVariables false
set_option linter.unusedSimpArgs false

set_option maxHeartbeats 1600000 in
theorem sameAllB (u v : Value) (qs ps : List El) (w : World) (hu : RowB w u qs) (hv : RowB w v ps) (hql : qs.length ≤ 1099511627776) (hpl : ps.length ≤ 1099511627776) :
    Calls Try.prog 13 #[u, v] w fun e w' => e = .returned (.bool (decide (qs.map El.r = ps.map El.r))) ∧ Below w.heap.size w w' := by
  have HU0 := Lib.hid hu; have HV0 := Lib.hid hv
  obtain ⟨A, c, rfl⟩ := hu.form
  obtain ⟨A', c', rfl⟩ := hv.form
  clear hu hv
  by_cases hl : qs.length = ps.length
  · obtain ⟨N, hN⟩ : ∃ N, qs.length = N := ⟨_, rfl⟩
    have HN := Lib.hid hN
    have HM : Hid (ps.length = N) := hl.symm.trans hN
    rw [← hl] at HV0 ⊢
    rw [hN] at HV0 hql ⊢
    have HU1 : Hid (RowB w (.slice A N c) qs) := by rw [← hN]; exact HU0.out
    clear HU0 hl hN hpl
    go_enter Try.func13, Try.ntmps13
    go_wp2_with fail
    go_loopg [5] N (fun g vi wr => ∃ k : Nat, g = N - k ∧ k ≤ N ∧ vi = .int .i64 k ∧ (qs.map El.r).take k = (ps.map El.r).take k ∧ Below w.heap.size w wr)
    case atStart => exact ⟨0, rfl, by omega, rfl, rfl, Below.refl _ _⟩
    case round =>
      obtain ⟨k, hgk, hk, rfl, hsm, hB⟩ := hrel
      have HG := Lib.hid hgk; have HSM := Lib.hid hsm; have HB := Lib.hid hB
      clear hgk hsm hB
      by_cases hlt : k < N
      · have hlt1 : k < qs.length := by have := HN.out; omega
        have hlt2 : k < ps.length := by have := HM.out; omega
        have hu1 := HU1.out.up HB.out; have hv1 := HV0.out.up HB.out
        obtain ⟨b, off, rfl, zb, r0, r1, r2, r3⟩ := hu1.at_ hlt1
        obtain ⟨g, off', rfl, zg, s0, s1, s2, s3⟩ := hv1.at_ hlt2
        have hsz := HB.out.size
        have hel := hu1.bs qs[k] (List.getElem_mem hlt1)
        have hel' := hv1.bs ps[k] (List.getElem_mem hlt2)
        have E1 := Lib.hid hel.1; have E2 := Lib.hid hel.2; have E3 := Lib.hid hel'.1; have E4 := Lib.hid hel'.2
        clear hel hel' hu1 hv1
        have TS := fun he => Lib.hid (take_same HSM.out hlt1 hlt2 he)
        have TN : Hid (¬ qs[k].r = ps[k].r → ¬ qs.map El.r = ps.map El.r) := fun hne he => hne (by
          have h1 : (qs.map El.r)[k]? = (ps.map El.r)[k]? := by rw [he]
          simpa [hlt1, hlt2] using h1)
        generalize qs[k] = q at *
        generalize ps[k] = p at *
        have TS' := Lib.hid TS; clear TS
        have HIQ : Hid (IsRc wr wr.heap.size (.agg #[q.kv, .int .i64 q.r.seq, .bool q.r.del, q.vv]) q.r) := ⟨_, _, rfl, E1.out, E2.out⟩
        have HIP : Hid (IsRc wr wr.heap.size (.agg #[p.kv, .int .i64 p.r.seq, .bool p.r.del, p.vv]) p.r) := ⟨_, _, rfl, E3.out, E4.out⟩
        have i1 : (0 : Int) ≤ (k : Int) := by omega
        have i2 : (k : Int) < (N : Int) := by omega
        have zb' := zb; have zg' := zg
        obtain ⟨x, hx⟩ : ∃ x, decide (q.r = p.r) = x := ⟨_, rfl⟩
        have HX := Lib.hid hx; clear hx
        go_wp2_with fail
        go_cut [6] from 12 to 26 (fun v wc => v = .bool x ∧ Below wr.heap.size wr wc)
        case first =>
          go_region_held3 (fun w' => w'.cell? ⟨b, off + k * 4, none⟩ = some q.kv ∧ w'.cell? ⟨b, off + k * 4 + 1, none⟩ = some (.int .i64 q.r.seq) ∧ w'.cell? ⟨b, off + k * 4 + 2, none⟩ = some (.bool q.r.del) ∧ w'.cell? ⟨b, off + k * 4 + 3, none⟩ = some q.vv ∧
              w'.cell? ⟨g, off' + k * 4, none⟩ = some p.kv ∧ w'.cell? ⟨g, off' + k * 4 + 1, none⟩ = some (.int .i64 p.r.seq) ∧ w'.cell? ⟨g, off' + k * 4 + 2, none⟩ = some (.bool p.r.del) ∧ w'.cell? ⟨g, off' + k * 4 + 3, none⟩ = some p.vv)
            ((first | (with_reducible exact ⟨r0, r1, r2, r3, s0, s1, s2, s3⟩) | exact ⟨r0, r1, r2, r3, s0, s1, s2, s3⟩ | exact ⟨(hcB _ zb').trans r0, (hcB _ zb').trans r1, (hcB _ zb').trans r2, (hcB _ zb').trans r3, (hcB _ zg').trans s0, (hcB _ zg').trans s1, (hcB _ zg').trans s2, (hcB _ zg').trans s3⟩))
            ((go_at_call 28; refine (same_any q.r p.r _ _ 0 wr.drew HIQ.out HIP.out).mono ?_; rintro e w2 ⟨rfl, hw2⟩; have hcB := fun (a : Addr) (hp : a.block < wr.heap.size) => hw2.cell hp; have HW2 := Lib.hid hw2; clear hw2; rw [same_eq, HX.out]))
          go_wp2_with fail
          go_meet
          exact ⟨rfl, (Below.refl _ _).drew.trans HW2.out⟩
        case rest =>
          obtain ⟨rfl, hw4⟩ := hcut
          have HB4 := Lib.hid (HB.out.trans (hw4.mono HB.out.size))
          clear hw4 r0 r1 r2 r3 s0 s1 s2 s3
          cases x with
          | true =>
            have he : q.r = p.r := by have := HX.out; simpa using this
            have HT := TS'.out he
            clear he TS'
            go_wp2_with fail
            go_roundg (N - (k + 1))
            case measure => have := HG.out; omega
            case rel => exact ⟨k + 1, rfl, by omega, by go_num, HT.out, HB4.out⟩
          | false =>
            have hne : ¬ q.r = p.r := by have := HX.out; simpa using this
            have HT := Lib.hid (TN.out hne)
            clear hne TN TS'
            go_wp2_with fail
            go_ret
            exact ⟨ret_bool (by simpa using HT.out), HB4.out⟩
      · have hkN : k = N := by omega
        subst hkN
        have HF : Hid (qs.map El.r = ps.map El.r) := by
          have := HSM.out
          rw [List.take_of_length_le (by have := HN.out; simp; omega), List.take_of_length_le (by have := HM.out; simp; omega)] at this
          exact this
        go_wp2_with fail
        go_ret
        exact ⟨ret_bool (by simpa using HF.out), HB.out⟩
  · have hne : ((qs.length : Int) != (ps.length : Int)) = true := by simp; omega
    have hl' : ¬ (qs.length : Int) = (ps.length : Int) := by omega
    have HF : Hid (¬ qs.map El.r = ps.map El.r) := fun he => hl (by have := congrArg List.length he; simpa using this)
    go_enter Try.func13, Try.ntmps13
    go_wp2_with fail
    go_ret
    exact ⟨ret_bool (by simpa using HF.out), Below.refl _ _⟩
end Go.Proofs.Ytfcemlcocdhmfaa
