/- Two rows of records: are they the same? -/
import Derived.Test.YtfcemlcocdhmfaaE
import Derived.Deep.RegionHeld3
import Derived.Deep.LoopGhost
import Derived.Deep.Cut
import Derived.Deep.CutRange
namespace Go.Proofs.Ytfcemlcocdhmfaa
open Go.RowKit Go
set_option linter.unusedVariables false
set_option linter.unusedSimpArgs false

instance : DecidableEq Rc := fun a b => decidable_of_iff (a.key = b.key ∧ a.seq = b.seq ∧ a.del = b.del ∧ a.val = b.val)
  ⟨fun h => by obtain ⟨k, s, d, v⟩ := a; obtain ⟨k', s', d', v'⟩ := b; simp only at h; obtain ⟨rfl, rfl, rfl, rfl⟩ := h; rfl, fun h => by rw [h]; exact ⟨rfl, rfl, rfl, rfl⟩⟩
theorem same_eq (a b : Rc) : (decide (a.key = b.key) && decide (a.seq = b.seq) && decide (a.del = b.del) && decide (a.val = b.val)) = decide (a = b) := by
  obtain ⟨k, s, d, v⟩ := a
  obtain ⟨k', s', d', v'⟩ := b
  rw [Bool.eq_iff_iff]
  simp
  constructor
  · rintro ⟨⟨⟨h1, h2⟩, h3⟩, h4⟩; exact ⟨h1, h2, h3, h4⟩
  · rintro ⟨h1, h2, h3, h4⟩; exact ⟨⟨⟨h1, h2⟩, h3⟩, h4⟩
theorem take_same {qs ps : List El} {k : Nat} (h : (qs.map El.r).take k = (ps.map El.r).take k) (h1 : k < qs.length) (h2 : k < ps.length) (he : qs[k].r = ps[k].r) : (qs.map El.r).take (k + 1) = (ps.map El.r).take (k + 1) := by
  rw [List.take_succ_eq_append_getElem (by simpa using h1), List.take_succ_eq_append_getElem (by simpa using h2), h]
  simp [he]

set_option maxHeartbeats 1600000 in
theorem sameAll_any (V U : Nat → Prop) (u v : Value) (qs ps : List El) (w : World) (hu : RowU w V u qs) (hv : RowU w U v ps) (hq : ElsOk w V qs) (hp : ElsOk w U ps) (hV : ∀ b, V b → b < w.heap.size) (hU : ∀ b, U b → b < w.heap.size) (hql : qs.length ≤ 1048576) (hpl : ps.length ≤ 1048576) :
    Calls Try.prog 13 #[u, v] w fun e w' => e = .returned (.bool (decide (qs.map El.r = ps.map El.r))) ∧ Below w.heap.size w w' := by
  have HU0 := Lib.hid hu; have HV0 := Lib.hid hv; have HQ := Lib.hid hq; have HP := Lib.hid hp; have HVL := Lib.hid hV; have HUL := Lib.hid hU
  obtain ⟨A, c, rfl⟩ := hu.form
  obtain ⟨A', c', rfl⟩ := hv.form
  clear hu hv hq hp hV hU
  by_cases hl : qs.length = ps.length
  · obtain ⟨N, hN⟩ : ∃ N, qs.length = N := ⟨_, rfl⟩
    have HN := Lib.hid hN
    have HM : Hid (ps.length = N) := hl.symm.trans hN
    rw [← hl] at HV0 ⊢
    rw [hN] at HV0 hql ⊢
    have HU1 : Hid (RowU w V (.slice A N c) qs) := by rw [← hN]; exact HU0.out
    clear HU0 hl hN hpl
    go_enter Try.func13, Try.ntmps13
    go_wp2_with fail
    go_loopg [5] N (fun g vi wr => ∃ k : Nat, g = N - k ∧ k ≤ N ∧ vi = .int .i64 k ∧ (qs.map El.r).take k = (ps.map El.r).take k ∧ Below w.heap.size w wr)
    case atStart => exact ⟨0, rfl, by omega, rfl, rfl, Below.refl _ _⟩
    case round =>
      obtain ⟨k, hgk, hk, rfl, hsm, hB⟩ := hrel
      have HG := Lib.hid hgk; have HSM := Lib.hid hsm; have HB := Lib.hid hB
      clear hgk hsm hB
      by_cases hlt : k < N
      · have hlt1 : k < qs.length := by have := HN.out; omega
        have hlt2 : k < ps.length := by have := HM.out; omega
        obtain ⟨_, _, e1, hcap, hrw⟩ := HU1.out
        injection e1 with e1 e2 e3; subst e1 e3
        obtain ⟨b, off, rfl, hbV, hbt, hcl⟩ := hrw (by omega)
        obtain ⟨_, _, e1', hcap', hrw'⟩ := HV0.out
        injection e1' with e1' e2' e3'; subst e1' e3'
        obtain ⟨g, off', rfl, hgU, hgt, hcl'⟩ := hrw' (by omega)
        have zb := HVL.out b hbV
        have zg := HUL.out g hgU
        obtain ⟨r0, r1, r2, r3⟩ := row_at (fun j hj => (HB.out.cell (p := ⟨b, off + j, none⟩) zb).trans (hcl j hj)) hlt1
        obtain ⟨s0, s1, s2, s3⟩ := row_at (fun j hj => (HB.out.cell (p := ⟨g, off' + j, none⟩) zg).trans (hcl' j hj)) hlt2
        have hsz := HB.out.size
        have hel := HQ.out qs[k] (List.getElem_mem hlt1)
        have hel' := HP.out ps[k] (List.getElem_mem hlt2)
        have E1 := Lib.hid (((hel.1.bs HVL.out).below HB.out).wider hsz); have E2 := Lib.hid (((hel.2.bs HVL.out).below HB.out).wider hsz)
        have E3 := Lib.hid (((hel'.1.bs HUL.out).below HB.out).wider hsz); have E4 := Lib.hid (((hel'.2.bs HUL.out).below HB.out).wider hsz)
        clear hel hel' hcl hcl' hbV hbt hgU hgt hcap hcap' e2 e2' hrw hrw'
        have TS := fun he => Lib.hid (take_same HSM.out hlt1 hlt2 he)
        have TN : Hid (¬ qs[k].r = ps[k].r → ¬ qs.map El.r = ps.map El.r) := fun hne he => hne (by
          have h1 : (qs.map El.r)[k]? = (ps.map El.r)[k]? := by rw [he]
          simpa [hlt1, hlt2] using h1)
        generalize qs[k] = q at *
        generalize ps[k] = p at *
        have TS' := Lib.hid TS; clear TS
        have HIQ : Hid (IsRc wr wr.heap.size (.agg #[q.kv, .int .i64 q.r.seq, .bool q.r.del, q.vv]) q.r) := ⟨_, _, rfl, E1.out, E2.out⟩
        have HIP : Hid (IsRc wr wr.heap.size (.agg #[p.kv, .int .i64 p.r.seq, .bool p.r.del, p.vv]) p.r) := ⟨_, _, rfl, E3.out, E4.out⟩
        have i1 : (0 : Int) ≤ (k : Int) := by omega
        have i2 : (k : Int) < (N : Int) := by omega
        have zb' : b < wr.heap.size := by omega
        have zg' : g < wr.heap.size := by omega
        obtain ⟨x, hx⟩ : ∃ x, decide (q.r = p.r) = x := ⟨_, rfl⟩
        have HX := Lib.hid hx; clear hx
        go_wp2_with fail
        go_cut [6] from 12 to 26 (fun v wc => v = .bool x ∧ Below wr.heap.size wr wc)
        case first =>
          go_region_held3 (fun w' => w'.cell? ⟨b, off + k * 4, none⟩ = some q.kv ∧ w'.cell? ⟨b, off + k * 4 + 1, none⟩ = some (.int .i64 q.r.seq) ∧ w'.cell? ⟨b, off + k * 4 + 2, none⟩ = some (.bool q.r.del) ∧ w'.cell? ⟨b, off + k * 4 + 3, none⟩ = some q.vv ∧
              w'.cell? ⟨g, off' + k * 4, none⟩ = some p.kv ∧ w'.cell? ⟨g, off' + k * 4 + 1, none⟩ = some (.int .i64 p.r.seq) ∧ w'.cell? ⟨g, off' + k * 4 + 2, none⟩ = some (.bool p.r.del) ∧ w'.cell? ⟨g, off' + k * 4 + 3, none⟩ = some p.vv)
            ((first | (with_reducible exact ⟨r0, r1, r2, r3, s0, s1, s2, s3⟩) | exact ⟨r0, r1, r2, r3, s0, s1, s2, s3⟩ | exact ⟨(hcB _ zb').trans r0, (hcB _ zb').trans r1, (hcB _ zb').trans r2, (hcB _ zb').trans r3, (hcB _ zg').trans s0, (hcB _ zg').trans s1, (hcB _ zg').trans s2, (hcB _ zg').trans s3⟩))
            ((go_at_call 28; refine (same_any q.r p.r _ _ 0 wr.drew HIQ.out HIP.out).mono ?_; rintro e w2 ⟨rfl, hw2⟩; have hcB := fun (a : Addr) (hp : a.block < wr.heap.size) => hw2.cell hp; have HW2 := Lib.hid hw2; clear hw2; rw [same_eq, HX.out]))
          go_wp2_with fail
          go_meet
          exact ⟨rfl, (Below.refl _ _).drew.trans HW2.out⟩
        case rest =>
          obtain ⟨rfl, hw4⟩ := hcut
          have HB4 := Lib.hid (HB.out.trans (hw4.mono HB.out.size))
          clear hw4 r0 r1 r2 r3 s0 s1 s2 s3
          cases x with
          | true =>
            have he : q.r = p.r := by have := HX.out; simpa using this
            have HT := TS'.out he
            clear he TS'
            go_wp2_with fail
            go_roundg (N - (k + 1))
            case measure => have := HG.out; omega
            case rel => exact ⟨k + 1, rfl, by omega, by go_num, HT.out, HB4.out⟩
          | false =>
            have hne : ¬ q.r = p.r := by have := HX.out; simpa using this
            have HT := Lib.hid (TN.out hne)
            clear hne TN TS'
            go_wp2_with fail
            go_ret
            exact ⟨ret_bool (by simpa using HT.out), HB4.out⟩
      · have hkN : k = N := by omega
        subst hkN
        have HF : Hid (qs.map El.r = ps.map El.r) := by
          have := HSM.out
          rw [List.take_of_length_le (by have := HN.out; simp; omega), List.take_of_length_le (by have := HM.out; simp; omega)] at this
          exact this
        go_wp2_with fail
        go_ret
        exact ⟨ret_bool (by simpa using HF.out), HB.out⟩
  · have hne : ((qs.length : Int) != (ps.length : Int)) = true := by simp; omega
    have hl' : ¬ (qs.length : Int) = (ps.length : Int) := by omega
    have HF : Hid (¬ qs.map El.r = ps.map El.r) := fun he => hl (by have := congrArg List.length he; simpa using this)
    go_enter Try.func13, Try.ntmps13
    go_wp2_with fail
    go_ret
    exact ⟨ret_bool (by simpa using HF.out), Below.refl _ _⟩
end Go.Proofs.Ytfcemlcocdhmfaa
