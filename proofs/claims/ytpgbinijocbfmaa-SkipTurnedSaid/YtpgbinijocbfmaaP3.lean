/- Len, Size, Height, Get, From: what the list tells. -/
import Derived.Test.YtpgbinijocbfmaaP2
namespace Go.Proofs.Ytpgbinijocbfmaa
open Go.RowKit Go
set_option linter.unusedVariables false
set_option linter.unusedSimpArgs false

theorem len_any (U : Nat → Prop) (L : Nd) (ns : List Nd) (high : Nat) (w : World) (h : Sk w U L ns high) :
    Calls Try.prog 12 #[ptr L.g] w fun e w' => e = .returned (.int .i64 (ns.length : Nat)) ∧ w' = w := by
  obtain ⟨y0, y1, y2, y3, y4, y5, y6, y7, y8⟩ := cells8 h.head
  unfold ptr
  go_enter Try.func12, Try.ntmps12
  go_wp2_with fail
  go_ret
  exact ⟨rfl, rfl⟩
theorem size_any (U : Nat → Prop) (L : Nd) (ns : List Nd) (high : Nat) (w : World) (h : Sk w U L ns high) :
    Calls Try.prog 13 #[ptr L.g] w fun e w' => e = .returned (.int .i64 (sizeS (ns.map Nd.r) : Nat)) ∧ w' = w := by
  obtain ⟨y0, y1, y2, y3, y4, y5, y6, y7, y8⟩ := cells8 h.head
  generalize sizeS (ns.map Nd.r) = z at *
  unfold ptr
  go_enter Try.func13, Try.ntmps13
  go_wp2_with fail
  go_ret
  exact ⟨rfl, rfl⟩
theorem height_any (U : Nat → Prop) (L : Nd) (ns : List Nd) (high : Nat) (w : World) (h : Sk w U L ns high) :
    Calls Try.prog 15 #[ptr L.g] w fun e w' => e = .returned (.int .i64 (high : Nat)) ∧ w' = w := by
  obtain ⟨y0, y1, y2, y3, y4, y5, y6, y7, y8⟩ := cells8 h.head
  unfold ptr
  go_enter Try.func15, Try.ntmps15
  go_wp2_with fail
  go_ret
  exact ⟨rfl, rfl⟩
def getS (rs : List Rc) (key : List UInt8) (seq : Int) : Option Rc := rs.find? fun r => decide (r.key = key) && decide (r.seq ≤ seq)
theorem getS_A {A : List Nd} {B : List Rc} {key : List UInt8} {seq : Int} (hA : ∀ a ∈ A, ordS a.r key seq < 0) : getS (A.map Nd.r ++ B) key seq = getS B key seq := by
  unfold getS
  rw [List.find?_append]
  have : (A.map Nd.r).find? (fun r => decide (r.key = key) && decide (r.seq ≤ seq)) = none := by
    rw [List.find?_eq_none]
    intro x hx
    obtain ⟨a, ha, rfl⟩ := List.mem_map.1 hx
    have h1 := hA a ha
    rw [ordS_lt] at h1
    intro h2
    simp at h2
    rcases h1 with h1 | h1
    · rw [h2.1, compare_refl] at h1; omega
    · omega
  rw [this]; rfl
theorem getS_B {b : Nd} {B : List Nd} {key : List UInt8} {seq : Int} (hs : Sorted ((b :: B).map Nd.r)) (hb : 0 ≤ ordS b.r key seq) : getS ((b :: B).map Nd.r) key seq = if b.r.key = key then some b.r else none := by
  unfold getS
  have h1 : ¬ ordS b.r key seq < 0 := Int.not_lt.2 hb
  rw [ordS_lt] at h1
  have h2 : ¬ Lib.compareBytes b.r.key key < 0 := fun h => h1 (.inl h)
  by_cases hk : b.r.key = key
  · have h3 : b.r.seq ≤ seq := by
      have : ¬ seq < b.r.seq := fun h => h1 (.inr ⟨hk, h⟩)
      omega
    rw [List.map_cons, List.find?_cons_of_pos (by simp [hk, h3]), if_pos hk]
  · rw [if_neg hk, List.find?_eq_none]
    intro x hx hx2
    simp at hx2
    unfold Sorted at hs
    rw [List.map_cons, List.pairwise_cons] at hs
    rw [List.map_cons] at hx
    rcases List.mem_cons.1 hx with rfl | hx
    · exact hk hx2.1
    · have h4 := hs.1 x hx
      unfold ahd at h4
      rw [ordS_lt, hx2.1] at h4
      rcases h4 with h4 | h4
      · exact h2 h4
      · exact hk h4.1
/-- A record told, in memory of its own. -/
def ToldRc (B : Nat) (w' : World) (v : Value) (r : Rc) : Prop := ∃ A c A' c', v = .agg #[.slice A r.key.length c, .int .i64 r.seq, .bool r.del, .slice A' r.val.length c'] ∧ Mine B w' (.slice A r.key.length c) r.key ∧ Mine B w' (.slice A' r.val.length c') r.val
def zeroRc : Rc := ⟨[], 0, false, []⟩
theorem mine_nil (B : Nat) (w : World) : Mine B w (.slice none 0 0) [] := ⟨⟨none, 0, rfl, fun h => absurd h (by simp)⟩, fun h => absurd rfl h⟩
theorem run_index_row (w : World) (R : Array Value) (v : Value) (h : R[0]? = some v) : (Instr.index 57 (.agg R) (.int .i64 0)).run Try.prog w = .ok v w := by
  simp [Instr.index, run_underlying Try.underlying57, run_underlying Try.underlying56, asIntOf, part, isAgg, go_sem, h]

theorem results_row_tmp {P : Program} {fn : Func} {p q : Tmp} {ty : TypeId} (h : fn.results = #[.cell p ty, .tmp q]) (tmps : Array Value) (w : World) (g : Nat) (t : TypeId) (cs : Array Value) (fr : Nat × Nat) (d : TypeDesc)
    (hp : tmps.getD p undef = .pointer (some ⟨g, 0, none⟩)) (hg : w.heap[g]? = some (.cells cs t fr))
    (hu : P.underlying ty = some d) (hd : (match d with | .struct _ | .array _ _ => true | _ => false) = true) (hi : (P.info? ty).map (·.size) = some cs.size) :
    (results fn tmps).run P w = .ok (.tuple #[.agg cs, tmps.getD q undef]) w := by
  have hp' : tmps[p]?.getD undef = .pointer (some ⟨g, 0, none⟩) := by simpa using hp
  simp [results, h, hp', asAddr, run_loadVar_row w g t ty cs fr d hg hu hd hi]

set_option maxHeartbeats 1600000 in
theorem get_any (U : Nat → Prop) (L : Nd) (ns : List Nd) (high : Nat) (key : List UInt8) (seq : Int) (u : Value) (w : World) (h : Sk w U L ns high) (hu : Bs w w.heap.size u key) (hv : ∀ n ∈ ns, n.r.key.length ≤ 1099511627776 ∧ n.r.val.length ≤ 1099511627776) :
    Calls Try.prog 18 #[ptr L.g, u, .int .i64 seq] w fun e w' => ∃ v, e = .returned (.tuple #[v, .bool (getS (ns.map Nd.r) key seq).isSome]) ∧ ToldRc w.heap.size w' v ((getS (ns.map Nd.r) key seq).getD zeroRc) ∧ Below w.heap.size w w' := by
  obtain ⟨A, B, rfl, hA, hB⟩ := sorted_split key seq ns h.sorted
  have HH := Lib.hid h; clear h
  have HA := Lib.hid hA; have HB : Hid (∀ b ∈ B, 0 ≤ ordS b.r key seq) := fun b hb => Int.not_lt.1 (hB b hb)
  clear hA hB
  have HV := Lib.hid hv; clear hv
  unfold ptr
  go_enter Try.func18, Try.ntmps18
  go_wp2_with fail
  refine (behind_any U L A B high key seq u _ (HH.out.below (by repeat' (first | (with_reducible exact Below.refl _ _) | (with_reducible refine Below.alloc ?_ ?_ _) | (with_reducible refine below_drewN ?_ _) | (with_reducible refine Below.drew ?_) | (with_reducible refine Below.setCell ?_ ?_ _) | (with_reducible refine Below.trans ?_ (Below.mono HW0.out ?_)) | (with_reducible refine Below.trans ?_ (Below.mono HW1.out ?_)) | (with_reducible refine Below.trans ?_ (Below.mono HW2.out ?_)) | (with_reducible refine Below.trans ?_ (Below.mono HW3.out ?_)) | (with_reducible refine Below.trans ?_ (Below.mono HW4.out ?_)) | (with_reducible refine Below.trans ?_ (Below.mono HW5.out ?_)) | (with_reducible refine Below.trans ?_ (Below.mono HW6.out ?_)) | (with_reducible refine Below.trans ?_ (Below.mono HW7.out ?_)) | (with_reducible exact Nat.le_refl _) | omega | (simp only [World.size_alloc, World.size_setCell, World.size_drew, size_drewN]; omega) | (simp; done) | (simp; omega)))) (hu.up (by repeat' (first | (with_reducible exact Below.refl _ _) | (with_reducible refine Below.alloc ?_ ?_ _) | (with_reducible refine below_drewN ?_ _) | (with_reducible refine Below.drew ?_) | (with_reducible refine Below.setCell ?_ ?_ _) | (with_reducible refine Below.trans ?_ (Below.mono HW0.out ?_)) | (with_reducible refine Below.trans ?_ (Below.mono HW1.out ?_)) | (with_reducible refine Below.trans ?_ (Below.mono HW2.out ?_)) | (with_reducible refine Below.trans ?_ (Below.mono HW3.out ?_)) | (with_reducible refine Below.trans ?_ (Below.mono HW4.out ?_)) | (with_reducible refine Below.trans ?_ (Below.mono HW5.out ?_)) | (with_reducible refine Below.trans ?_ (Below.mono HW6.out ?_)) | (with_reducible refine Below.trans ?_ (Below.mono HW7.out ?_)) | (with_reducible exact Nat.le_refl _) | omega | (simp only [World.size_alloc, World.size_setCell, World.size_drew, size_drewN]; omega) | (simp; done) | (simp; omega)))) HA.out (fun b hb => Int.not_lt.2 (HB.out b hb))).mono ?_
  rintro e w1 ⟨rfl, hw1⟩
  have hI : ∀ W, (Instr.index 57 (.agg (rowF (fun l => ptr (lastOn l L A).g) 12)) (.int .i64 0)).run Try.prog W = .ok (.pointer (some ⟨(lastOn 0 L A).g, 0, none⟩)) W := fun W => run_index_row W _ _ (rowF_get _ (by omega))
  generalize rowF (fun l => ptr (lastOn l L A).g) 12 = R7 at hI ⊢
  have HB1 : Hid (Below w.heap.size w w1) := ((Below.refl _ _).alloc (Nat.le_refl _) _).trans (hw1.mono (by simp))
  have bz := blk_below (blk_new w (.cells #[.slice none 0 0, .int .i64 0, .bool false, .slice none 0 0] 35) rfl) hw1 (by simp)
  clear hw1
  have HS := Lib.hid (HH.out.below HB1.out)
  have BZ := Lib.hid bz; clear bz
  obtain ⟨P0, S0, e0, h01, h02⟩ := lastOn_parts 0 L A (by rw [HS.out.hh]; omega)
  obtain ⟨l1, l2⟩ := HS.out.lead (show L :: (A ++ B) = P0 ++ lastOn 0 L A :: (S0 ++ B) by rw [← List.cons_append, e0]; simp)
  have l3 := l2 0 h01
  rw [hd_skip _ h02] at l3
  clear e0 h02 l2
  generalize lastOn 0 L A = a0 at *
  clear P0 S0
  rcases B with _ | ⟨b, B⟩
  · have l4 : w1.cell? ⟨a0.nb, 0, none⟩ = some (.pointer none) := l3
    have HG : Hid (getS ((A ++ []).map Nd.r) key seq = none) := by
      show _ = _
      have := getS_A (B := []) HA.out
      rw [List.append_nil] at this ⊢
      rw [this]; rfl
    clear l3
    obtain ⟨z0, z1, z2, z3, z4⟩ := cells4 BZ.out
    go_wp2_with fail
    have hb := blk_set (blk_set (blk_set (blk_set BZ.out 0 (.slice none 0 0)) 1 (.int .i64 0)) 2 (.bool false)) 3 (.slice none 0 0)
    refine bodyPost_ret (results_row_tmp rfl _ _ w.heap.size 35 #[.slice none 0 0, .int .i64 0, .bool false, .slice none 0 0] (0, 0) _ (by rfl) hb Try.underlying35 rfl (by kernel_rfl)) rfl ?_
    refine ⟨.agg #[.slice none 0 0, .int .i64 0, .bool false, .slice none 0 0], by rw [HG.out]; rfl, ?_, ?_⟩
    · rw [HG.out]; exact ⟨none, 0, none, 0, rfl, mine_nil _ _, mine_nil _ _⟩
    · have hw := Nat.le_refl w.heap.size
      exact (((HB1.out.setCell hw _).setCell hw _).setCell hw _).setCell hw _
  · have nb := HS.out.node b (by simp)
    have l4 : w1.cell? ⟨a0.nb, 0, none⟩ = some (.pointer (some ⟨b.g, 0, none⟩)) := by rw [l3, hd_at _ (by have := nb.2.2.2.1; omega)]; rfl
    have HG : Hid (getS ((A ++ b :: B).map Nd.r) key seq = if b.r.key = key then some b.r else none) := by
      show _ = _
      rw [List.map_append, getS_A HA.out]
      have := HS.out.sorted
      unfold Sorted at this
      rw [List.map_append, List.pairwise_append] at this
      exact getS_B this.2.1 (HB.out b (by simp))
    have HKV := Lib.hid (HV.out b (by simp))
    have hkb := nb.2.1.bs HS.out.lt
    have hvb := nb.2.2.1.bs HS.out.lt
    obtain ⟨z0, z1, z2, z3, z4, z5⟩ := cells5 nb.1
    have HKB := Lib.hid hkb; have HVB := Lib.hid hvb
    clear l3 nb hkb hvb
    by_cases hkey : b.r.key = key
    · have HKY := Lib.hid hkey
      have hq : (b.r.key == key) = true := by simpa using hkey
      have HQ := Lib.hid hq; clear hkey hq
      go_wp2_with fail
      refine (equal_any b.kv u b.r.key key _ _ _ HKB.out (hu.up HB1.out)).mono ?_; rintro e w2 ⟨rfl, rfl⟩
      rw [HQ.out]
      go_wp2_with fail
      refine (copied_any b.kv b.vv b.r _ HKB.out HVB.out HKV.out.1 HKV.out.2).mono ?_
      rintro e w3 ⟨A5, c5, A6, c6, rfl, hm1, hm2, hw3⟩
      have bz := blk_below BZ.out hw3 (blk_lt BZ.out)
      obtain ⟨k0, k1, k2, k3, k4⟩ := cells4 bz
      have BZ3 := Lib.hid bz
      have HW3 := Lib.hid hw3; have HM1 := Lib.hid hm1; have HM2 := Lib.hid hm2
      clear bz hw3 hm1 hm2
      go_wp2_with fail
      have hb := blk_set (blk_set (blk_set (blk_set BZ3.out 0 (.slice A5 b.r.key.length c5)) 1 (.int .i64 b.r.seq)) 2 (.bool b.r.del)) 3 (.slice A6 b.r.val.length c6)
      refine bodyPost_ret (results_row_tmp rfl _ _ w.heap.size 35 #[.slice A5 b.r.key.length c5, .int .i64 b.r.seq, .bool b.r.del, .slice A6 b.r.val.length c6] (0, 0) _ (by rfl) hb Try.underlying35 rfl (by kernel_rfl)) rfl ?_
      have s2 : w.heap.size < w2.heap.size := blk_lt BZ.out
      have far : ∀ c, w2.heap.size ≤ c → ((((w3.setCell ⟨w.heap.size, 0, none⟩ (.slice A5 b.r.key.length c5)).setCell ⟨w.heap.size, 1, none⟩ (.int .i64 b.r.seq)).setCell ⟨w.heap.size, 2, none⟩ (.bool b.r.del)).setCell ⟨w.heap.size, 3, none⟩ (.slice A6 b.r.val.length c6)).heap[c]? = w3.heap[c]? := fun c hc => by
        have h1 : c ≠ w.heap.size := by omega
        rw [Below.heap_setCell _ _ _ _ h1, Below.heap_setCell _ _ _ _ h1, Below.heap_setCell _ _ _ _ h1, Below.heap_setCell _ _ _ _ h1]
      refine ⟨_, by rw [HG.out, if_pos HKY.out]; rfl, ?_, ?_⟩
      · rw [HG.out, if_pos HKY.out]
        exact ⟨A5, c5, A6, c6, rfl, HM1.out.move (by omega) (by simp) (fun c hc => far c hc.1), HM2.out.move (by omega) (by simp) (fun c hc => far c hc.1)⟩
      · have hw := Nat.le_refl w.heap.size
        exact ((((HB1.out.trans (HW3.out.mono HB1.out.size)).setCell hw _).setCell hw _).setCell hw _).setCell hw _
    · have hq : (b.r.key == key) = false := by simpa using hkey
      have HQ := Lib.hid hq; have HKY := Lib.hid hkey; clear hkey hq
      obtain ⟨k0, k1, k2, k3, k4⟩ := cells4 BZ.out
      go_wp2_with fail
      refine (equal_any b.kv u b.r.key key _ _ _ HKB.out (hu.up HB1.out)).mono ?_; rintro e w2 ⟨rfl, rfl⟩
      rw [HQ.out]
      go_wp2_with fail
      have hb := blk_set (blk_set (blk_set (blk_set BZ.out 0 (.slice none 0 0)) 1 (.int .i64 0)) 2 (.bool false)) 3 (.slice none 0 0)
      refine bodyPost_ret (results_row_tmp rfl _ _ w.heap.size 35 #[.slice none 0 0, .int .i64 0, .bool false, .slice none 0 0] (0, 0) _ (by rfl) hb Try.underlying35 rfl (by kernel_rfl)) rfl ?_
      refine ⟨.agg #[.slice none 0 0, .int .i64 0, .bool false, .slice none 0 0], by rw [HG.out, if_neg HKY.out]; rfl, ?_, ?_⟩
      · rw [HG.out, if_neg HKY.out]; exact ⟨none, 0, none, 0, rfl, mine_nil _ _, mine_nil _ _⟩
      · have hw := Nat.le_refl w.heap.size
        exact (((HB1.out.setCell hw _).setCell hw _).setCell hw _).setCell hw _
end Go.Proofs.Ytpgbinijocbfmaa
