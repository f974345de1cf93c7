/- InOrder, few; rows of pairs. -/
import Derived.Test.YtfcemlcocdhmfaaA1
/- InOrder, few: the reference's. -/
namespace Go.Proofs.Ytfcemlcocdhmfaa
open Go.RowKit Go
set_option linter.unusedVariables false
set_option linter.unusedSimpArgs false

set_option maxHeartbeats 1600000 in
theorem inOrder_ref (v : Value) (qs : List El) (w : World) (h : RowB w v qs) (hn : qs.length ≤ 1099511627776) :
    Calls Try.prog 14 #[v] w fun e w' => e = .returned (.bool (inO (qs.map El.r))) ∧ Below w.heap.size w w' := by
  obtain ⟨A, c, rfl⟩ := h.form
  have HR := Lib.hid h; clear h
  obtain ⟨N, hN⟩ : ∃ N, qs.length = N := ⟨_, rfl⟩
  have HN := Lib.hid hN
  rw [hN] at hn HR ⊢
  clear hN
  go_enter Try.func14, Try.ntmps14
  go_wp2_with fail
  go_loopg [3] N (fun g vi wr => ∃ k : Nat, g = N - k ∧ vi = .int .i64 ((k : Int) + 1) ∧ (k = 0 ∨ k < N) ∧ (∀ j a b, j < k → (qs.map El.r)[j]? = some a → (qs.map El.r)[j + 1]? = some b → ord2 a b < 0) ∧ Below w.heap.size w wr)
  case atStart => exact ⟨0, by omega, rfl, .inl rfl, by intro j a b hj; omega, Below.refl _ _⟩
  case round =>
    obtain ⟨k, hgk, rfl, hk, hall, hB⟩ := hrel
    have HG := Lib.hid hgk; have HALL := Lib.hid hall; have HB := Lib.hid hB
    have HR2 := Lib.hid (HR.out.up hB)
    clear hgk hall hB
    by_cases hlt : k + 1 < N
    · have hl1 : k < qs.length := by have := HN.out; omega
      have hl2 : k + 1 < qs.length := by have := HN.out; omega
      obtain ⟨b, off, rfl, hb, r0, r1, r2, r3⟩ := HR2.out.at_ hl1
      obtain ⟨s0, s1, s2, s3⟩ := HR2.out.at2 hl2
      have I1 := Lib.hid (HR2.out.rec hl1); have I2 := Lib.hid (HR2.out.rec hl2)
      have g1 : (qs.map El.r)[k]? = some qs[k].r := by simp [hl1]
      have g2 : (qs.map El.r)[k + 1]? = some qs[k + 1].r := by simp [hl2]
      have G1 := Lib.hid g1; have G2 := Lib.hid g2
      clear g1 g2
      generalize qs[k] = q at *
      generalize qs[k + 1] = p at *
      obtain ⟨o, ho⟩ : ∃ o, ord2 q.r p.r = o := ⟨_, rfl⟩
      have HO := Lib.hid ho; clear ho
      have hsub : IntKind.i64.wrap ((k : Int) + 1 - 1) = (k : Int) := by rw [IntWalk.i64_in _ (by omega)]; omega
      have hsub2 : IntKind.i64.wrap (k : Int) = (k : Int) := IntWalk.i64_in _ (by omega)
      have hnat : ((k : Int) + 1).toNat = k + 1 := by omega
      have i1 : (0 : Int) ≤ (k : Int) := by omega
      have i2 : (k : Int) < (N : Int) := by omega
      have i3 : (0 : Int) ≤ (k : Int) + 1 := by omega
      have i4 : (k : Int) + 1 < (N : Int) := by omega
      by_cases hneg : o < 0
      · have HD : Hid (decide (ordS q.r p.r.key p.r.seq < 0) = true) := by show _ = _; have := HO.out; unfold ord2 at this; rw [this]; simpa using hneg
        go_wp2_with fail
        go_region_held3 (fun w' => w'.cell? ⟨b, off + k * 4, none⟩ = some q.kv ∧ w'.cell? ⟨b, off + k * 4 + 1, none⟩ = some (.int .i64 q.r.seq) ∧ w'.cell? ⟨b, off + k * 4 + 2, none⟩ = some (.bool q.r.del) ∧ w'.cell? ⟨b, off + k * 4 + 3, none⟩ = some q.vv ∧
            w'.cell? ⟨b, off + (k + 1) * 4, none⟩ = some p.kv ∧ w'.cell? ⟨b, off + (k + 1) * 4 + 1, none⟩ = some (.int .i64 p.r.seq) ∧ w'.cell? ⟨b, off + (k + 1) * 4 + 2, none⟩ = some (.bool p.r.del) ∧ w'.cell? ⟨b, off + (k + 1) * 4 + 3, none⟩ = some p.vv)
          ((first | (with_reducible exact ⟨r0, r1, r2, r3, s0, s1, s2, s3⟩) | exact ⟨r0, r1, r2, r3, s0, s1, s2, s3⟩ | exact ⟨(hcB _ hb).trans r0, (hcB _ hb).trans r1, (hcB _ hb).trans r2, (hcB _ hb).trans r3, (hcB _ hb).trans s0, (hcB _ hb).trans s1, (hcB _ hb).trans s2, (hcB _ hb).trans s3⟩))
          ((go_at_call 29; refine (ahead_any q.r p.r _ _ wr.drew I1.out I2.out).mono ?_; rintro e w2 ⟨rfl, hw2⟩; have hcB := fun (a : Addr) (hp : a.block < wr.heap.size) => hw2.cell hp; have HW2 := Lib.hid hw2; clear hw2; rw [HD.out]))
        clear hsub hsub2 hnat hcB r0 r1 r2 r3 s0 s1 s2 s3
        go_wp2_with fail
        go_roundg (N - (k + 1))
        case measure => have := HG.out; omega
        case rel => exact ⟨k + 1, rfl, by go_num, .inr (by omega), fun j a b' hj ha hb' => by
          rcases Nat.lt_or_ge j k with h | h
          · exact HALL.out j a b' h ha hb'
          · obtain rfl : j = k := by omega
            rw [G1.out] at ha; rw [G2.out] at hb'
            injection ha with ha; injection hb' with hb'
            rw [← ha, ← hb', HO.out]; exact hneg, HB.out.trans ((Below.refl _ _).drew.trans HW2.out |>.mono HB.out.size)⟩
      · have hpos : 0 ≤ o := by omega
        have HD : Hid (decide (ordS q.r p.r.key p.r.seq < 0) = false) := by show _ = _; have := HO.out; unfold ord2 at this; rw [this]; simpa using hneg
        go_wp2_with fail
        go_region_held3 (fun w' => w'.cell? ⟨b, off + k * 4, none⟩ = some q.kv ∧ w'.cell? ⟨b, off + k * 4 + 1, none⟩ = some (.int .i64 q.r.seq) ∧ w'.cell? ⟨b, off + k * 4 + 2, none⟩ = some (.bool q.r.del) ∧ w'.cell? ⟨b, off + k * 4 + 3, none⟩ = some q.vv ∧
            w'.cell? ⟨b, off + (k + 1) * 4, none⟩ = some p.kv ∧ w'.cell? ⟨b, off + (k + 1) * 4 + 1, none⟩ = some (.int .i64 p.r.seq) ∧ w'.cell? ⟨b, off + (k + 1) * 4 + 2, none⟩ = some (.bool p.r.del) ∧ w'.cell? ⟨b, off + (k + 1) * 4 + 3, none⟩ = some p.vv)
          ((first | (with_reducible exact ⟨r0, r1, r2, r3, s0, s1, s2, s3⟩) | exact ⟨r0, r1, r2, r3, s0, s1, s2, s3⟩ | exact ⟨(hcB _ hb).trans r0, (hcB _ hb).trans r1, (hcB _ hb).trans r2, (hcB _ hb).trans r3, (hcB _ hb).trans s0, (hcB _ hb).trans s1, (hcB _ hb).trans s2, (hcB _ hb).trans s3⟩))
          ((go_at_call 29; refine (ahead_any q.r p.r _ _ wr.drew I1.out I2.out).mono ?_; rintro e w2 ⟨rfl, hw2⟩; have hcB := fun (a : Addr) (hp : a.block < wr.heap.size) => hw2.cell hp; have HW2 := Lib.hid hw2; clear hw2; rw [HD.out]))
        clear hsub hsub2 hnat hcB r0 r1 r2 r3 s0 s1 s2 s3
        have HF : Hid (inO (qs.map El.r) = false) := by
          show _ = _
          rw [Bool.eq_false_iff]
          intro hi
          have := (inO_iff _).1 hi k _ _ G1.out G2.out
          rw [HO.out] at this
          omega
        go_wp2_with fail
        go_ret
        exact ⟨ret_bool (by rw [HF.out]), HB.out.trans ((Below.refl _ _).drew.trans HW2.out |>.mono HB.out.size)⟩
    · go_wp2_with fail
      go_ret
      refine ⟨ret_bool ?_, HB.out⟩
      refine (inO_iff _).2 ?_
      intro j a b ha hb
      have hj : j + 1 < (qs.map El.r).length := (List.getElem?_eq_some_iff.1 hb).1
      have hl : (qs.map El.r).length = N := by rw [List.length_map]; exact HN.out
      exact HALL.out j a b (by omega) ha hb

/-- Some answer; where it is yes, the length is small. -/
structure FewR (qs : List El) : Prop where
  len : qs.length ≤ 1000
  el : ∀ q ∈ qs, q.r.key.length ≤ 1000 ∧ q.r.val.length ≤ 5000
def SomeFew (qs : List El) (w : World) (e : Ending) (w' : World) : Prop := ∃ m : Bool, e = .returned (.bool m) ∧ (m = true → FewR qs) ∧ w' = w
set_option maxHeartbeats 1600000 in
theorem few_any (v : Value) (qs : List El) (w : World) (h : RowB w v qs) :
    Calls Try.prog 10 #[v] w (SomeFew qs w) := by
  obtain ⟨A, c, rfl⟩ := h.form
  have HR := Lib.hid h; clear h
  obtain ⟨N, hN⟩ : ∃ N, qs.length = N := ⟨_, rfl⟩
  have HN := Lib.hid hN
  rw [hN] at HR ⊢
  clear hN
  by_cases hl : 1000 < N
  · have hl' : (1000 : Int) < (N : Int) := by omega
    go_enter Try.func10, Try.ntmps10
    go_wp2_with fail
    go_ret
    exact ⟨false, rfl, by simp, rfl⟩
  · have hl' : (N : Int) ≤ 1000 := by omega
    go_enter Try.func10, Try.ntmps10
    go_wp2_with fail
    go_loopg [3] N (fun g vi wr => ∃ k : Nat, g = N - k ∧ k ≤ N ∧ vi = .int .i64 k ∧ (∀ q ∈ qs.take k, q.r.key.length ≤ 1000 ∧ q.r.val.length ≤ 5000) ∧ wr = w)
    case atStart => exact ⟨0, rfl, by omega, rfl, by simp, rfl⟩
    case round =>
      obtain ⟨k, hgk, hk, rfl, hel, rfl⟩ := hrel
      have HG := Lib.hid hgk; have HEL := Lib.hid hel; clear hgk hel
      by_cases hlt : k < N
      · have hl1 : k < qs.length := by have := HN.out; omega
        obtain ⟨b, off, rfl, hb, r0, r1, r2, r3⟩ := HR.out.at_ hl1
        obtain ⟨Ak, ck, ek, Av, cv, ev⟩ : ∃ Ak ck, qs[k].kv = .slice Ak qs[k].r.key.length ck ∧ ∃ Av cv, qs[k].vv = .slice Av qs[k].r.val.length cv := by
          obtain ⟨_, _, _, _, _, hq⟩ := HR.out
          obtain ⟨⟨Ak, ck, ek, _⟩, ⟨Av, cv, ev, _⟩⟩ := hq _ (List.getElem_mem hl1)
          exact ⟨Ak, ck, ek, Av, cv, ev⟩
        rw [ek] at r0; rw [ev] at r3
        obtain ⟨kl, hkl⟩ : ∃ m, qs[k].r.key.length = m := ⟨_, rfl⟩
        obtain ⟨vl, hvl⟩ : ∃ m, qs[k].r.val.length = m := ⟨_, rfl⟩
        rw [hkl] at r0; rw [hvl] at r3
        have HT : Hid (qs.take (k + 1) = qs.take k ++ [qs[k]]) := List.take_succ_eq_append_getElem hl1
        have HKL := Lib.hid hkl; have HVL := Lib.hid hvl
        clear ek ev hkl hvl r1 r2
        have i1 : (0 : Int) ≤ (k : Int) := by omega
        have i2 : (k : Int) < (N : Int) := by omega
        by_cases hk2 : 1000 < kl
        · have hk3 : (1000 : Int) < (kl : Int) := by omega
          go_wp2_with fail
          go_ret
          exact ⟨false, rfl, by simp, rfl⟩
        · have hk3 : (kl : Int) ≤ 1000 := by omega
          by_cases hv2 : 5000 < vl
          · have hv3 : (5000 : Int) < (vl : Int) := by omega
            go_wp2_with fail
            go_ret
            exact ⟨false, rfl, by simp, rfl⟩
          · have hv3 : (vl : Int) ≤ 5000 := by omega
            go_wp2_with fail
            go_roundg (N - (k + 1))
            case measure => have := HG.out; omega
            case rel => exact ⟨k + 1, rfl, by omega, by go_num, fun q hq => by
              rw [HT.out, List.mem_append, List.mem_singleton] at hq
              rcases hq with hq | hq
              · exact HEL.out q hq
              · rw [hq, HKL.out, HVL.out]; omega, rfl⟩
      · have hkN : k = N := by omega
        subst hkN
        go_wp2_with fail
        go_ret
        exact ⟨true, rfl, fun _ => ⟨by rw [HN.out]; omega, fun q hq => HEL.out q (by rw [List.take_of_length_le (by rw [HN.out]; exact Nat.le_refl _)]; exact hq)⟩, rfl⟩
end Go.Proofs.Ytfcemlcocdhmfaa
/- Pairs of a key and a value: rows of them; are two rows the same? -/
namespace Go.Proofs.Ytfcemlcocdhmfaa
open Go.RowKit Go
set_option linter.unusedVariables false
set_option linter.unusedSimpArgs false

/-- A pair in a row: its cells, and what they say. -/
structure Pr where
  kv : Value
  vv : Value
  p : List UInt8 × List UInt8
def Pr.cells (q : Pr) : List Value := [q.kv, q.vv]
def prCells (qs : List Pr) : List Value := qs.flatMap Pr.cells
theorem prCells_len (qs : List Pr) : (prCells qs).length = qs.length * 2 := by
  unfold prCells
  induction qs with
  | nil => rfl
  | cons q qs ih => rw [List.flatMap_cons, List.length_append, ih]; simp [Pr.cells]; omega
theorem prCells_app (a b : List Pr) : prCells (a ++ b) = prCells a ++ prCells b := by simp [prCells]
theorem prCells_drop (qs : List Pr) (k : Nat) : (prCells qs).drop (k * 2) = prCells (qs.drop k) := by
  induction qs generalizing k with
  | nil => simp [prCells]
  | cons q qs ih =>
    cases k with
    | zero => simp [prCells]
    | succ k =>
      have h1 : prCells (q :: qs) = q.cells ++ prCells qs := by simp [prCells]
      rw [List.drop_succ_cons, h1, ← ih k, List.drop_append]
      have : q.cells.length = 2 := rfl
      rw [this, show (k + 1) * 2 - 2 = k * 2 by omega, List.drop_of_length_le (by rw [this]; omega), List.nil_append]
theorem prCells_at (qs : List Pr) (k : Nat) (h : k < qs.length) : (prCells qs)[k * 2]? = some qs[k].kv ∧ (prCells qs)[k * 2 + 1]? = some qs[k].vv := by
  have h1 := prCells_drop qs k
  rw [List.drop_eq_getElem_cons h] at h1
  have h2 : ∀ j, (prCells qs)[k * 2 + j]? = (prCells (qs[k] :: qs.drop (k + 1)))[j]? := fun j => by rw [← h1, List.getElem?_drop]
  have h3 : prCells (qs[k] :: qs.drop (k + 1)) = qs[k].cells ++ prCells (qs.drop (k + 1)) := List.flatMap_cons
  rw [h3] at h2
  exact ⟨(h2 0).trans rfl, (h2 1).trans rfl⟩
/-- A slice of pairs that reads as qs. -/
def RowP (w : World) (v : Value) (qs : List Pr) : Prop := ∃ A c, v = .slice A qs.length c ∧ Rd w w.heap.size 2 A qs.length (prCells qs) ∧ ∀ q ∈ qs, Bs w w.heap.size q.kv q.p.1 ∧ Bs w w.heap.size q.vv q.p.2
theorem RowP.up {w w' : World} {v : Value} {qs : List Pr} (h : RowP w v qs) (hb : Below w.heap.size w w') : RowP w' v qs := by
  obtain ⟨A, c, e, hr, hq⟩ := h
  exact ⟨A, c, e, (hr.below hb).wider hb.size, fun q hq' => ⟨(hq q hq').1.up hb, (hq q hq').2.up hb⟩⟩
theorem RowP.form {w : World} {v : Value} {qs : List Pr} (h : RowP w v qs) : ∃ A c, v = .slice A qs.length c := let ⟨A, c, e, _⟩ := h; ⟨A, c, e⟩
theorem RowP.at_ {w : World} {A : Option Addr} {n c : Nat} {qs : List Pr} (h : RowP w (.slice A n c) qs) {k : Nat} (hk : k < qs.length) : ∃ b off, A = some ⟨b, off, none⟩ ∧ b < w.heap.size ∧ w.cell? ⟨b, off + k * 2, none⟩ = some qs[k].kv ∧ w.cell? ⟨b, off + k * 2 + 1, none⟩ = some qs[k].vv := by
  obtain ⟨A', c', e, hr, hq⟩ := h
  injection e with e1 e2 e3
  subst e1
  obtain ⟨b, off, e, hb, hcl⟩ := hr.2 (by omega)
  obtain ⟨h0, h1⟩ := prCells_at qs k hk
  exact ⟨b, off, e, hb, (hcl (k * 2) (by omega)).trans h0, (hcl (k * 2 + 1) (by omega)).trans h1⟩
theorem RowP.bs {w : World} {v : Value} {qs : List Pr} (h : RowP w v qs) {k : Nat} (hk : k < qs.length) : Bs w w.heap.size qs[k].kv qs[k].p.1 ∧ Bs w w.heap.size qs[k].vv qs[k].p.2 := by
  obtain ⟨A', c', e, hr, hq⟩ := h
  exact hq _ (List.getElem_mem hk)

set_option maxHeartbeats 1600000 in
theorem same10_any (a b : List UInt8 × List UInt8) (k1 v1 k2 v2 : Value) (w : World) (hk1 : Bs w w.heap.size k1 a.1) (hv1 : Bs w w.heap.size v1 a.2) (hk2 : Bs w w.heap.size k2 b.1) (hv2 : Bs w w.heap.size v2 b.2) :
    Calls Try.prog 30 #[.agg #[k1, v1], .agg #[k2, v2]] w fun e w' => e = .returned (.bool (decide (a = b))) ∧ Below w.heap.size w w' := by
  have hB : Below w.heap.size w ((w.alloc (.cells #[k1, v1] 58)).alloc (.cells #[k2, v2] 58)) := (by repeat' (first | (with_reducible exact Below.refl _ _) | (with_reducible refine Below.alloc ?_ ?_ _) | (with_reducible refine below_drewN ?_ _) | (with_reducible refine Below.drew ?_) | (with_reducible refine Below.setCell ?_ ?_ _) | (with_reducible refine Below.trans ?_ (Below.mono HW0.out ?_)) | (with_reducible refine Below.trans ?_ (Below.mono HW1.out ?_)) | (with_reducible refine Below.trans ?_ (Below.mono HW2.out ?_)) | (with_reducible refine Below.trans ?_ (Below.mono HW3.out ?_)) | (with_reducible refine Below.trans ?_ (Below.mono HW4.out ?_)) | (with_reducible refine Below.trans ?_ (Below.mono HW5.out ?_)) | (with_reducible refine Below.trans ?_ (Below.mono HW6.out ?_)) | (with_reducible refine Below.trans ?_ (Below.mono HW7.out ?_)) | (with_reducible exact Nat.le_refl _) | omega | (simp only [World.size_alloc, World.size_setCell, World.size_drew, size_drewN]; omega) | (simp; done) | (simp; omega)))
  have e1 := (hk1.below hB).conv
  have e2 := (hk2.below hB).conv
  have e3 := (hv1.below hB).conv
  have e4 := (hv2.below hB).conv
  obtain ⟨A1, c1, rfl, _⟩ := hk1
  obtain ⟨A2, c2, rfl, _⟩ := hk2
  obtain ⟨A3, c3, rfl, _⟩ := hv1
  obtain ⟨A4, c4, rfl, _⟩ := hv2
  obtain ⟨ak, av⟩ := a
  obtain ⟨bk, bv⟩ := b
  clear hB
  simp only at e1 e2 e3 e4 ⊢
  go_enter Try.func30, Try.ntmps30
  go_wp2_with fail
  all_goals (try go_ret)
  all_goals clear e1 e2 e3 e4
  all_goals (try simp only [str_l] at *)
  all_goals exact ⟨ret_bool (by simp_all <;> (rw [Bool.eq_iff_iff]; simp)), (by repeat' (first | (with_reducible exact Below.refl _ _) | (with_reducible refine Below.alloc ?_ ?_ _) | (with_reducible refine below_drewN ?_ _) | (with_reducible refine Below.drew ?_) | (with_reducible refine Below.setCell ?_ ?_ _) | (with_reducible refine Below.trans ?_ (Below.mono HW0.out ?_)) | (with_reducible refine Below.trans ?_ (Below.mono HW1.out ?_)) | (with_reducible refine Below.trans ?_ (Below.mono HW2.out ?_)) | (with_reducible refine Below.trans ?_ (Below.mono HW3.out ?_)) | (with_reducible refine Below.trans ?_ (Below.mono HW4.out ?_)) | (with_reducible refine Below.trans ?_ (Below.mono HW5.out ?_)) | (with_reducible refine Below.trans ?_ (Below.mono HW6.out ?_)) | (with_reducible refine Below.trans ?_ (Below.mono HW7.out ?_)) | (with_reducible exact Nat.le_refl _) | omega | (simp only [World.size_alloc, World.size_setCell, World.size_drew, size_drewN]; omega) | (simp; done) | (simp; omega)))⟩
end Go.Proofs.Ytfcemlcocdhmfaa
/- InOrder of a list of any length. -/
namespace Go.Proofs.Ytfcemlcocdhmfaa
open Go.RowKit Go
set_option linter.unusedVariables false
set_option linter.unusedSimpArgs false

set_option maxHeartbeats 1600000 in
theorem inOrder_refw (v : Value) (qs : List El) (w : World) (h : RowB w v qs) (hn : qs.length ≤ 9223372036854775807) :
    Calls Try.prog 14 #[v] w fun e w' => e = .returned (.bool (inO (qs.map El.r))) ∧ Below w.heap.size w w' := by
  obtain ⟨A, c, rfl⟩ := h.form
  have HR := Lib.hid h; clear h
  obtain ⟨N, hN⟩ : ∃ N, qs.length = N := ⟨_, rfl⟩
  have HN := Lib.hid hN
  rw [hN] at hn HR ⊢
  clear hN
  go_enter Try.func14, Try.ntmps14
  go_wp2_with fail
  go_loopg [3] N (fun g vi wr => ∃ k : Nat, g = N - k ∧ vi = .int .i64 ((k : Int) + 1) ∧ (k = 0 ∨ k < N) ∧ (∀ j a b, j < k → (qs.map El.r)[j]? = some a → (qs.map El.r)[j + 1]? = some b → ord2 a b < 0) ∧ Below w.heap.size w wr)
  case atStart => exact ⟨0, by omega, rfl, .inl rfl, by intro j a b hj; omega, Below.refl _ _⟩
  case round =>
    obtain ⟨k, hgk, rfl, hk, hall, hB⟩ := hrel
    have HG := Lib.hid hgk; have HALL := Lib.hid hall; have HB := Lib.hid hB
    have HR2 := Lib.hid (HR.out.up hB)
    clear hgk hall hB
    by_cases hlt : k + 1 < N
    · have hl1 : k < qs.length := by have := HN.out; omega
      have hl2 : k + 1 < qs.length := by have := HN.out; omega
      obtain ⟨b, off, rfl, hb, r0, r1, r2, r3⟩ := HR2.out.at_ hl1
      obtain ⟨s0, s1, s2, s3⟩ := HR2.out.at2 hl2
      have I1 := Lib.hid (HR2.out.rec hl1); have I2 := Lib.hid (HR2.out.rec hl2)
      have g1 : (qs.map El.r)[k]? = some qs[k].r := by simp [hl1]
      have g2 : (qs.map El.r)[k + 1]? = some qs[k + 1].r := by simp [hl2]
      have G1 := Lib.hid g1; have G2 := Lib.hid g2
      clear g1 g2
      generalize qs[k] = q at *
      generalize qs[k + 1] = p at *
      obtain ⟨o, ho⟩ : ∃ o, ord2 q.r p.r = o := ⟨_, rfl⟩
      have HO := Lib.hid ho; clear ho
      have hsub : IntKind.i64.wrap ((k : Int) + 1 - 1) = (k : Int) := by rw [IntWalk.i64_in _ (by omega)]; omega
      have hsub2 : IntKind.i64.wrap (k : Int) = (k : Int) := IntWalk.i64_in _ (by omega)
      have hnat : ((k : Int) + 1).toNat = k + 1 := by omega
      have i1 : (0 : Int) ≤ (k : Int) := by omega
      have i2 : (k : Int) < (N : Int) := by omega
      have i3 : (0 : Int) ≤ (k : Int) + 1 := by omega
      have i4 : (k : Int) + 1 < (N : Int) := by omega
      by_cases hneg : o < 0
      · have HD : Hid (decide (ordS q.r p.r.key p.r.seq < 0) = true) := by show _ = _; have := HO.out; unfold ord2 at this; rw [this]; simpa using hneg
        go_wp2_with fail
        go_region_held3 (fun w' => w'.cell? ⟨b, off + k * 4, none⟩ = some q.kv ∧ w'.cell? ⟨b, off + k * 4 + 1, none⟩ = some (.int .i64 q.r.seq) ∧ w'.cell? ⟨b, off + k * 4 + 2, none⟩ = some (.bool q.r.del) ∧ w'.cell? ⟨b, off + k * 4 + 3, none⟩ = some q.vv ∧
            w'.cell? ⟨b, off + (k + 1) * 4, none⟩ = some p.kv ∧ w'.cell? ⟨b, off + (k + 1) * 4 + 1, none⟩ = some (.int .i64 p.r.seq) ∧ w'.cell? ⟨b, off + (k + 1) * 4 + 2, none⟩ = some (.bool p.r.del) ∧ w'.cell? ⟨b, off + (k + 1) * 4 + 3, none⟩ = some p.vv)
          ((first | (with_reducible exact ⟨r0, r1, r2, r3, s0, s1, s2, s3⟩) | exact ⟨r0, r1, r2, r3, s0, s1, s2, s3⟩ | exact ⟨(hcB _ hb).trans r0, (hcB _ hb).trans r1, (hcB _ hb).trans r2, (hcB _ hb).trans r3, (hcB _ hb).trans s0, (hcB _ hb).trans s1, (hcB _ hb).trans s2, (hcB _ hb).trans s3⟩))
          ((go_at_call 29; refine (ahead_any q.r p.r _ _ wr.drew I1.out I2.out).mono ?_; rintro e w2 ⟨rfl, hw2⟩; have hcB := fun (a : Addr) (hp : a.block < wr.heap.size) => hw2.cell hp; have HW2 := Lib.hid hw2; clear hw2; rw [HD.out]))
        clear hsub hsub2 hnat hcB r0 r1 r2 r3 s0 s1 s2 s3
        go_wp2_with fail
        go_roundg (N - (k + 1))
        case measure => have := HG.out; omega
        case rel => exact ⟨k + 1, rfl, by go_num, .inr (by omega), fun j a b' hj ha hb' => by
          rcases Nat.lt_or_ge j k with h | h
          · exact HALL.out j a b' h ha hb'
          · obtain rfl : j = k := by omega
            rw [G1.out] at ha; rw [G2.out] at hb'
            injection ha with ha; injection hb' with hb'
            rw [← ha, ← hb', HO.out]; exact hneg, HB.out.trans ((Below.refl _ _).drew.trans HW2.out |>.mono HB.out.size)⟩
      · have hpos : 0 ≤ o := by omega
        have HD : Hid (decide (ordS q.r p.r.key p.r.seq < 0) = false) := by show _ = _; have := HO.out; unfold ord2 at this; rw [this]; simpa using hneg
        go_wp2_with fail
        go_region_held3 (fun w' => w'.cell? ⟨b, off + k * 4, none⟩ = some q.kv ∧ w'.cell? ⟨b, off + k * 4 + 1, none⟩ = some (.int .i64 q.r.seq) ∧ w'.cell? ⟨b, off + k * 4 + 2, none⟩ = some (.bool q.r.del) ∧ w'.cell? ⟨b, off + k * 4 + 3, none⟩ = some q.vv ∧
            w'.cell? ⟨b, off + (k + 1) * 4, none⟩ = some p.kv ∧ w'.cell? ⟨b, off + (k + 1) * 4 + 1, none⟩ = some (.int .i64 p.r.seq) ∧ w'.cell? ⟨b, off + (k + 1) * 4 + 2, none⟩ = some (.bool p.r.del) ∧ w'.cell? ⟨b, off + (k + 1) * 4 + 3, none⟩ = some p.vv)
          ((first | (with_reducible exact ⟨r0, r1, r2, r3, s0, s1, s2, s3⟩) | exact ⟨r0, r1, r2, r3, s0, s1, s2, s3⟩ | exact ⟨(hcB _ hb).trans r0, (hcB _ hb).trans r1, (hcB _ hb).trans r2, (hcB _ hb).trans r3, (hcB _ hb).trans s0, (hcB _ hb).trans s1, (hcB _ hb).trans s2, (hcB _ hb).trans s3⟩))
          ((go_at_call 29; refine (ahead_any q.r p.r _ _ wr.drew I1.out I2.out).mono ?_; rintro e w2 ⟨rfl, hw2⟩; have hcB := fun (a : Addr) (hp : a.block < wr.heap.size) => hw2.cell hp; have HW2 := Lib.hid hw2; clear hw2; rw [HD.out]))
        clear hsub hsub2 hnat hcB r0 r1 r2 r3 s0 s1 s2 s3
        have HF : Hid (inO (qs.map El.r) = false) := by
          show _ = _
          rw [Bool.eq_false_iff]
          intro hi
          have := (inO_iff _).1 hi k _ _ G1.out G2.out
          rw [HO.out] at this
          omega
        go_wp2_with fail
        go_ret
        exact ⟨ret_bool (by rw [HF.out]), HB.out.trans ((Below.refl _ _).drew.trans HW2.out |>.mono HB.out.size)⟩
    · go_wp2_with fail
      go_ret
      refine ⟨ret_bool ?_, HB.out⟩
      refine (inO_iff _).2 ?_
      intro j a b ha hb
      have hj : j + 1 < (qs.map El.r).length := (List.getElem?_eq_some_iff.1 hb).1
      have hl : (qs.map El.r).length = N := by rw [List.length_map]; exact HN.out
      exact HALL.out j a b (by omega) ha hb

end Go.Proofs.Ytfcemlcocdhmfaa
