/- merge.order, inOrder, InOrder. -/
import Derived.Test.YtfcemlcocdhmfaaE2
import Derived.IntWalk
import Derived.Deep.CutBlock
namespace Go.Proofs.Ytfcemlcocdhmfaa
open Go.RowKit Go
set_option linter.unusedVariables false
set_option linter.unusedSimpArgs false

/-- How one record stands to another one. -/
def ord2 (a b : Rc) : Int := ordS a b.key b.seq
set_option maxHeartbeats 1600000 in
theorem order_m (a b : Rc) (u v : Value) (w : World) (ha : IsRc w w.heap.size u a) (hb : IsRc w w.heap.size v b) :
    Calls Try.prog 23 #[u, v] w fun e w' => e = .returned (.int .i64 (ord2 a b)) ∧ Below w.heap.size w w' := by
  obtain ⟨k1, v1, rfl, hk1, hv1⟩ := ha
  obtain ⟨k2, v2, rfl, hk2, hv2⟩ := hb
  have hB : Below w.heap.size w ((w.alloc (.cells #[k1, .int .i64 a.seq, .bool a.del, v1] 40)).alloc (.cells #[k2, .int .i64 b.seq, .bool b.del, v2] 40)) := (by repeat' (first | (with_reducible exact Below.refl _ _) | (with_reducible refine Below.alloc ?_ ?_ _) | (with_reducible refine below_drewN ?_ _) | (with_reducible refine Below.drew ?_) | (with_reducible refine Below.setCell ?_ ?_ _) | (with_reducible refine Below.trans ?_ (Below.mono HW0.out ?_)) | (with_reducible refine Below.trans ?_ (Below.mono HW1.out ?_)) | (with_reducible refine Below.trans ?_ (Below.mono HW2.out ?_)) | (with_reducible refine Below.trans ?_ (Below.mono HW3.out ?_)) | (with_reducible refine Below.trans ?_ (Below.mono HW4.out ?_)) | (with_reducible refine Below.trans ?_ (Below.mono HW5.out ?_)) | (with_reducible refine Below.trans ?_ (Below.mono HW6.out ?_)) | (with_reducible refine Below.trans ?_ (Below.mono HW7.out ?_)) | (with_reducible exact Nat.le_refl _) | omega | (simp only [World.size_alloc, World.size_setCell, World.size_drew, size_drewN]; omega) | (simp; done) | (simp; omega)))
  have f1 : ((w.alloc (.cells #[k1, .int .i64 a.seq, .bool a.del, v1] 40)).alloc (.cells #[k2, .int .i64 b.seq, .bool b.del, v2] 40)).heap[w.heap.size]? = some (.cells #[k1, .int .i64 a.seq, .bool a.del, v1] 40 (0, 0)) := heap_alloc2_old _ _ _
  have f2 : ((w.alloc (.cells #[k1, .int .i64 a.seq, .bool a.del, v1] 40)).alloc (.cells #[k2, .int .i64 b.seq, .bool b.del, v2] 40)).heap[w.heap.size + 1]? = some (.cells #[k2, .int .i64 b.seq, .bool b.del, v2] 40 (0, 0)) := heap_alloc2_new _ _ _
  have K1 := Lib.hid (hk1.up hB); have K2 := Lib.hid (hk2.up hB)
  have HB := Lib.hid hB
  clear hk1 hk2 hv1 hv2 hB
  go_enter Try.func23, Try.ntmps23
  go_wp2_with fail
  generalize (w.alloc (.cells #[k1, .int .i64 a.seq, .bool a.del, v1] 40)).alloc (.cells #[k2, .int .i64 b.seq, .bool b.del, v2] 40) = W at *
  have z2 : w.heap.size + 1 < W.heap.size := blk_lt f2
  have z1 : w.heap.size < W.heap.size := by omega
  obtain ⟨c0, c1, c2, c3, c4⟩ := cells4 f1
  obtain ⟨d0, d1, d2, d3, d4⟩ := cells4 f2
  clear f1 f2 c2 c3 d2 d3
  go_region_held3 (fun w' => w'.cell? ⟨w.heap.size, 0, none⟩ = some k1 ∧ w'.cell? ⟨w.heap.size, 1, none⟩ = some (.int .i64 a.seq) ∧ w'.cell? ⟨w.heap.size + 1, 0, none⟩ = some k2 ∧ w'.cell? ⟨w.heap.size + 1, 1, none⟩ = some (.int .i64 b.seq))
    ((first | (with_reducible exact ⟨c0, c1, d0, d1⟩) | exact ⟨c0, c1, d0, d1⟩ | exact ⟨(World.cell?_alloc_lt _ _ _ (by simpa using z1)).trans c0, (World.cell?_alloc_lt _ _ _ (by simpa using z1)).trans c1, (World.cell?_alloc_lt _ _ _ (by simpa using z2)).trans d0, (World.cell?_alloc_lt _ _ _ (by simpa using z2)).trans d1⟩))
    ((first
      | (go_at_call 41; refine (compare_any k1 k2 a.key b.key _ _ _ (by first | exact K1.out | exact K1.out.of_cells (fun _ _ => rfl)) (by first | exact K2.out | exact K2.out.of_cells (fun _ _ => rfl))).mono ?_; rintro e w' ⟨rfl, rfl⟩)
      | (go_at_call 42; refine (Try.cmp_Compare_int b.seq a.seq _).mono ?_; rintro e w' ⟨rfl, rfl⟩)
      | (go_at_call 40; refine (or_blk W.heap.size 3 (Lib.compareBytes a.key b.key) (Lib.compareInt b.seq a.seq) (W.alloc (.cells #[.int .i64 (Lib.compareBytes a.key b.key), .int .i64 (Lib.compareInt b.seq a.seq)] 3)).drew (blk_new W (.cells #[.int .i64 (Lib.compareBytes a.key b.key), .int .i64 (Lib.compareInt b.seq a.seq)] 3) rfl)).mono ?_; rintro e w' ⟨rfl, rfl⟩)))
  all_goals go_wp2_with fail
  all_goals go_ret
  all_goals exact ⟨rfl, (HB.out.alloc HB.out.size _).drew⟩

/-- A slice of records that reads as qs, whatever its blocks. -/
def RowB (w : World) (v : Value) (qs : List El) : Prop := ∃ A c, v = .slice A qs.length c ∧ qs.length ≤ c ∧ Rd w w.heap.size 4 A qs.length (elCells qs) ∧ ∀ q ∈ qs, Bs w w.heap.size q.kv q.r.key ∧ Bs w w.heap.size q.vv q.r.val
theorem RowB.up {w w' : World} {v : Value} {qs : List El} (h : RowB w v qs) (hb : Below w.heap.size w w') : RowB w' v qs := by
  obtain ⟨A, c, e, hc, hr, hq⟩ := h
  exact ⟨A, c, e, hc, (hr.below hb).wider hb.size, fun q hq' => ⟨(hq q hq').1.up hb, (hq q hq').2.up hb⟩⟩
theorem RowB.form {w : World} {v : Value} {qs : List El} (h : RowB w v qs) : ∃ A c, v = .slice A qs.length c := let ⟨A, c, e, _⟩ := h; ⟨A, c, e⟩
/-- One record of the row: its cells, and what they say. -/
theorem RowB.at_ {w : World} {A : Option Addr} {n c : Nat} {qs : List El} (h : RowB w (.slice A n c) qs) {k : Nat} (hk : k < qs.length) : ∃ b off, A = some ⟨b, off, none⟩ ∧ b < w.heap.size ∧
    w.cell? ⟨b, off + k * 4, none⟩ = some qs[k].kv ∧ w.cell? ⟨b, off + k * 4 + 1, none⟩ = some (.int .i64 qs[k].r.seq) ∧ w.cell? ⟨b, off + k * 4 + 2, none⟩ = some (.bool qs[k].r.del) ∧ w.cell? ⟨b, off + k * 4 + 3, none⟩ = some qs[k].vv := by
  obtain ⟨A', c', e, hc, hr, hq⟩ := h
  injection e with e1 e2 e3
  subst e1
  obtain ⟨b, off, e, hb, hcl⟩ := hr.2 (by omega)
  exact ⟨b, off, e, hb, row_at hcl hk⟩
theorem RowB.at2 {w : World} {b off n c : Nat} {qs : List El} (h : RowB w (.slice (some ⟨b, off, none⟩) n c) qs) {k : Nat} (hk : k < qs.length) :
    w.cell? ⟨b, off + k * 4, none⟩ = some qs[k].kv ∧ w.cell? ⟨b, off + k * 4 + 1, none⟩ = some (.int .i64 qs[k].r.seq) ∧ w.cell? ⟨b, off + k * 4 + 2, none⟩ = some (.bool qs[k].r.del) ∧ w.cell? ⟨b, off + k * 4 + 3, none⟩ = some qs[k].vv := by
  obtain ⟨b', off', e, _, hc⟩ := h.at_ hk
  injection e with e
  injection e with e1 e2
  subst e1 e2
  exact hc
theorem RowB.rec {w : World} {v : Value} {qs : List El} (h : RowB w v qs) {k : Nat} (hk : k < qs.length) : IsRc w w.heap.size (.agg #[qs[k].kv, .int .i64 qs[k].r.seq, .bool qs[k].r.del, qs[k].vv]) qs[k].r := by
  obtain ⟨A', c', e, hc, hr, hq⟩ := h
  exact ⟨_, _, rfl, (hq _ (List.getElem_mem hk)).1, (hq _ (List.getElem_mem hk)).2⟩

/-- Is a list in order? -/
def inO : List Rc → Bool
  | [] => true
  | [_] => true
  | a :: b :: l => decide (ord2 a b < 0) && inO (b :: l)
theorem inO_iff : ∀ (rs : List Rc), inO rs = true ↔ ∀ j a b, rs[j]? = some a → rs[j + 1]? = some b → ord2 a b < 0
  | [] => by simp [inO]
  | [x] => by simp [inO]
  | a :: b :: l => by
    rw [inO, Bool.and_eq_true, decide_eq_true_eq, inO_iff (b :: l)]
    constructor
    · rintro ⟨h1, h2⟩ j x y hx hy
      cases j with
      | zero => simp at hx hy; subst hx hy; exact h1
      | succ j => exact h2 j x y (by simpa using hx) (by simpa using hy)
    · intro h
      exact ⟨h 0 a b rfl rfl, fun j x y hx hy => h (j + 1) x y (by simpa using hx) (by simpa using hy)⟩

set_option maxHeartbeats 1600000 in
theorem inOrder_any (v : Value) (qs : List El) (w : World) (h : RowB w v qs) (hn : qs.length ≤ 1099511627776) :
    Calls Try.prog 20 #[v] w fun e w' => e = .returned (.bool (inO (qs.map El.r))) ∧ Below w.heap.size w w' := by
  obtain ⟨A, c, rfl⟩ := h.form
  have HR := Lib.hid h; clear h
  obtain ⟨N, hN⟩ : ∃ N, qs.length = N := ⟨_, rfl⟩
  have HN := Lib.hid hN
  rw [hN] at hn HR ⊢
  clear hN
  go_enter Try.func20, Try.ntmps20
  go_wp2_with fail
  go_loopg [3] N (fun g vi wr => ∃ k : Nat, g = N - k ∧ vi = .int .i64 ((k : Int) + 1) ∧ (k = 0 ∨ k < N) ∧ (∀ j a b, j < k → (qs.map El.r)[j]? = some a → (qs.map El.r)[j + 1]? = some b → ord2 a b < 0) ∧ Below w.heap.size w wr)
  case atStart => exact ⟨0, by omega, rfl, .inl rfl, by intro j a b hj; omega, Below.refl _ _⟩
  case round =>
    obtain ⟨k, hgk, rfl, hk, hall, hB⟩ := hrel
    have HG := Lib.hid hgk; have HALL := Lib.hid hall; have HB := Lib.hid hB
    have HR2 := Lib.hid (HR.out.up hB)
    clear hgk hall hB
    by_cases hlt : k + 1 < N
    · have hl1 : k < qs.length := by have := HN.out; omega
      have hl2 : k + 1 < qs.length := by have := HN.out; omega
      obtain ⟨b, off, rfl, hb, r0, r1, r2, r3⟩ := HR2.out.at_ hl1
      obtain ⟨s0, s1, s2, s3⟩ := HR2.out.at2 hl2
      have I1 := Lib.hid (HR2.out.rec hl1); have I2 := Lib.hid (HR2.out.rec hl2)
      have g1 : (qs.map El.r)[k]? = some qs[k].r := by simp [hl1]
      have g2 : (qs.map El.r)[k + 1]? = some qs[k + 1].r := by simp [hl2]
      have G1 := Lib.hid g1; have G2 := Lib.hid g2
      clear g1 g2
      generalize qs[k] = q at *
      generalize qs[k + 1] = p at *
      obtain ⟨o, ho⟩ : ∃ o, ord2 q.r p.r = o := ⟨_, rfl⟩
      have HO := Lib.hid ho; clear ho
      have hsub : IntKind.i64.wrap ((k : Int) + 1 - 1) = (k : Int) := by rw [IntWalk.i64_in _ (by omega)]; omega
      have hsub2 : IntKind.i64.wrap (k : Int) = (k : Int) := IntWalk.i64_in _ (by omega)
      have hnat : ((k : Int) + 1).toNat = k + 1 := by omega
      have i1 : (0 : Int) ≤ (k : Int) := by omega
      have i2 : (k : Int) < (N : Int) := by omega
      have i3 : (0 : Int) ≤ (k : Int) + 1 := by omega
      have i4 : (k : Int) + 1 < (N : Int) := by omega
      by_cases hneg : o < 0
      · go_wp2_with fail
        go_region_held3 (fun w' => w'.cell? ⟨b, off + k * 4, none⟩ = some q.kv ∧ w'.cell? ⟨b, off + k * 4 + 1, none⟩ = some (.int .i64 q.r.seq) ∧ w'.cell? ⟨b, off + k * 4 + 2, none⟩ = some (.bool q.r.del) ∧ w'.cell? ⟨b, off + k * 4 + 3, none⟩ = some q.vv ∧
            w'.cell? ⟨b, off + (k + 1) * 4, none⟩ = some p.kv ∧ w'.cell? ⟨b, off + (k + 1) * 4 + 1, none⟩ = some (.int .i64 p.r.seq) ∧ w'.cell? ⟨b, off + (k + 1) * 4 + 2, none⟩ = some (.bool p.r.del) ∧ w'.cell? ⟨b, off + (k + 1) * 4 + 3, none⟩ = some p.vv)
          ((first | (with_reducible exact ⟨r0, r1, r2, r3, s0, s1, s2, s3⟩) | exact ⟨r0, r1, r2, r3, s0, s1, s2, s3⟩ | exact ⟨(hcB _ hb).trans r0, (hcB _ hb).trans r1, (hcB _ hb).trans r2, (hcB _ hb).trans r3, (hcB _ hb).trans s0, (hcB _ hb).trans s1, (hcB _ hb).trans s2, (hcB _ hb).trans s3⟩))
          ((go_at_call 23; refine (order_m q.r p.r _ _ wr.drew I1.out I2.out).mono ?_; rintro e w2 ⟨rfl, hw2⟩; have hcB := fun (a : Addr) (hp : a.block < wr.heap.size) => hw2.cell hp; have HW2 := Lib.hid hw2; clear hw2; rw [HO.out]))
        clear hsub hsub2 hnat hcB r0 r1 r2 r3 s0 s1 s2 s3
        go_wp2_with fail
        go_roundg (N - (k + 1))
        case measure => have := HG.out; omega
        case rel => exact ⟨k + 1, rfl, by go_num, .inr (by omega), fun j a b' hj ha hb' => by
          rcases Nat.lt_or_ge j k with h | h
          · exact HALL.out j a b' h ha hb'
          · obtain rfl : j = k := by omega
            rw [G1.out] at ha; rw [G2.out] at hb'
            injection ha with ha; injection hb' with hb'
            rw [← ha, ← hb', HO.out]; exact hneg, HB.out.trans ((Below.refl _ _).drew.trans HW2.out |>.mono HB.out.size)⟩
      · have hpos : 0 ≤ o := by omega
        go_wp2_with fail
        go_region_held3 (fun w' => w'.cell? ⟨b, off + k * 4, none⟩ = some q.kv ∧ w'.cell? ⟨b, off + k * 4 + 1, none⟩ = some (.int .i64 q.r.seq) ∧ w'.cell? ⟨b, off + k * 4 + 2, none⟩ = some (.bool q.r.del) ∧ w'.cell? ⟨b, off + k * 4 + 3, none⟩ = some q.vv ∧
            w'.cell? ⟨b, off + (k + 1) * 4, none⟩ = some p.kv ∧ w'.cell? ⟨b, off + (k + 1) * 4 + 1, none⟩ = some (.int .i64 p.r.seq) ∧ w'.cell? ⟨b, off + (k + 1) * 4 + 2, none⟩ = some (.bool p.r.del) ∧ w'.cell? ⟨b, off + (k + 1) * 4 + 3, none⟩ = some p.vv)
          ((first | (with_reducible exact ⟨r0, r1, r2, r3, s0, s1, s2, s3⟩) | exact ⟨r0, r1, r2, r3, s0, s1, s2, s3⟩ | exact ⟨(hcB _ hb).trans r0, (hcB _ hb).trans r1, (hcB _ hb).trans r2, (hcB _ hb).trans r3, (hcB _ hb).trans s0, (hcB _ hb).trans s1, (hcB _ hb).trans s2, (hcB _ hb).trans s3⟩))
          ((go_at_call 23; refine (order_m q.r p.r _ _ wr.drew I1.out I2.out).mono ?_; rintro e w2 ⟨rfl, hw2⟩; have hcB := fun (a : Addr) (hp : a.block < wr.heap.size) => hw2.cell hp; have HW2 := Lib.hid hw2; clear hw2; rw [HO.out]))
        clear hsub hsub2 hnat hcB r0 r1 r2 r3 s0 s1 s2 s3
        have HF : Hid (inO (qs.map El.r) = false) := by
          show _ = _
          rw [Bool.eq_false_iff]
          intro hi
          have := (inO_iff _).1 hi k _ _ G1.out G2.out
          rw [HO.out] at this
          omega
        go_wp2_with fail
        go_ret
        exact ⟨ret_bool (by rw [HF.out]), HB.out.trans ((Below.refl _ _).drew.trans HW2.out |>.mono HB.out.size)⟩
    · go_wp2_with fail
      go_ret
      refine ⟨ret_bool ?_, HB.out⟩
      refine (inO_iff _).2 ?_
      intro j a b ha hb
      have hj : j + 1 < (qs.map El.r).length := (List.getElem?_eq_some_iff.1 hb).1
      have hl : (qs.map El.r).length = N := by rw [List.length_map]; exact HN.out
      exact HALL.out j a b (by omega) ha hb
end Go.Proofs.Ytfcemlcocdhmfaa
