/- num.Split: what is refused. -/
import Derived.Test.YtjimahagfkpacaaW1
namespace Go.Proofs.Ytjimahagfkpacaa
open Go.RowKit Go
set_option linter.unusedVariables false
set_option linter.unusedSimpArgs false

theorem okSp_amt {a : Int} {ws : List Int} (h : ¬ amt a = true) : okSp a ws = false := by simp [okSp, h]
theorem okSp_len {a : Int} {ws : List Int} (h : ¬ (1 ≤ ws.length ∧ ws.length ≤ 64)) : okSp a ws = false := by simp only [okSp]; rw [decide_eq_false h]; simp
theorem okSp_neg {a : Int} {ws : List Int} {m : Int} (h : IsMin ws m) (hm : m < 0) : okSp a ws = false := by
  have : ws.all (fun x => decide (0 ≤ x)) = false := by
    rw [Bool.eq_false_iff]; intro h2
    have := List.all_eq_true.1 h2 m h.1
    simp at this; omega
  simp only [okSp, this]; simp
theorem okSp_sum {a : Int} {ws : List Int} (h : ¬ ((sumS ws).2 = 0 ∧ (sumS ws).1 ≠ 0)) : okSp a ws = false := by simp only [okSp]; rw [decide_eq_false h]; simp
theorem okSp_yes {a : Int} {ws : List Int} {m : Int} (h1 : amt a = true) (h2 : 1 ≤ ws.length ∧ ws.length ≤ 64) (h3 : IsMin ws m) (hm : 0 ≤ m) (h4 : (sumS ws).2 = 0 ∧ (sumS ws).1 ≠ 0) : okSp a ws = true := by
  have : ws.all (fun x => decide (0 ≤ x)) = true := List.all_eq_true.2 fun x hx => by have := h3.2 x hx; simp; omega
  simp only [okSp, h1, this]; rw [decide_eq_true h2, decide_eq_true h4]; rfl
theorem okSp_parts {a : Int} {ws : List Int} (h : okSp a ws = true) : amt a = true ∧ (1 ≤ ws.length ∧ ws.length ≤ 64) ∧ (∀ x ∈ ws, 0 ≤ x) ∧ ws.all amt = true ∧ amt ws.sum = true ∧ sumS ws = (ws.sum, 0) ∧ 0 < ws.sum := by
  simp only [okSp, Bool.and_eq_true, decide_eq_true_eq] at h
  obtain ⟨⟨⟨h1, h2⟩, h3⟩, h4, h5⟩ := h
  obtain ⟨s1, s2, s3⟩ := sumS_ok h4
  have h0 : ∀ x ∈ ws, 0 ≤ x := fun x hx => by have := List.all_eq_true.1 h3 x hx; simpa using this
  have := sum_nonneg h0
  rw [s1] at h5
  exact ⟨h1, h2, h0, s2, s3, s1, by simp only at h5; omega⟩

theorem prefix_left {a T : Int} {ws : List Int} (hT : 0 < T) (hw : ∀ w ∈ ws, 0 ≤ w) (hs : ws.sum = T) (ha : -4611686018427387904 ≤ a ∧ a ≤ 4611686018427387904) (hn : ws.length ≤ 1000) (k : Nat) :
    a - (quoS a T (ws.take k)).sum ≤ 4611686018427388904 := by
  have h1 := sums (a := a) (T := T) (ws.take k)
  have h3 : (rstS a T (ws.take k)).sum ≤ T * ((rstS a T (ws.take k)).length : Int) := sum_bound (fun x hx => by obtain ⟨w, _, rfl⟩ := List.mem_map.1 hx; have := Int.emod_lt_of_pos (a * w) hT; omega)
  have h4 : 0 ≤ (ws.take k).sum := sum_nonneg (fun x hx => hw x (List.mem_of_mem_take hx))
  have h5 : 0 ≤ (ws.drop k).sum := sum_nonneg (fun x hx => hw x (List.mem_of_mem_drop hx))
  have h6 : (ws.take k).sum + (ws.drop k).sum = T := by rw [← List.sum_append, List.take_append_drop, hs]
  have h7 : (rstS a T (ws.take k)).length ≤ 1000 := by rw [rstS_len, List.length_take]; omega
  generalize (quoS a T (ws.take k)).sum = Q at *
  generalize (rstS a T (ws.take k)).sum = R at *
  generalize (rstS a T (ws.take k)).length = n at *
  generalize (ws.take k).sum = S at *
  have h8 : T * (n : Int) ≤ T * 1000 := Int.mul_le_mul_of_nonneg_left (by omega) (by omega)
  by_cases ha0 : 0 ≤ a
  · rcases Int.lt_or_le Q (-1000) with h | h
    · have e1 : T * Q ≤ T * (-1001) := Int.mul_le_mul_of_nonneg_left (by omega) (by omega)
      have e2 := Int.mul_nonneg ha0 h4
      omega
    · omega
  · rcases Int.lt_or_le Q (a - 1000) with h | h
    · have e1 : T * Q ≤ T * (a - 1001) := Int.mul_le_mul_of_nonneg_left (by omega) (by omega)
      have e2 : -a * S ≤ -a * T := Int.mul_le_mul_of_nonneg_left (by omega) (by omega)
      have e3 : -a * S = -(a * S) := Int.neg_mul _ _
      have e4 : -a * T = -(a * T) := Int.neg_mul _ _
      have e5 : T * (a - 1001) = a * T - 1001 * T := by rw [Int.mul_sub, Int.mul_comm T a, Int.mul_comm T 1001]
      omega
    · omega
theorem far_cell {w : World} {g g' i j : Nat} {v : Value} (h : w.cell? ⟨g, i, none⟩ = some v) (hne : g ≠ g') (u : Value) : (w.setCell ⟨g', j, none⟩ u).cell? ⟨g, i, none⟩ = some v :=
  (World.cell?_setCell_other _ _ _ _ (by intro e; injection e with e _ _; exact hne e.symm)).trans h
/-- A row under way: k are laid, the rest are noughts. -/
def half (l : List Int) (n : Nat) : List Int := l ++ List.replicate (n - l.length) 0
theorem half_nil (n : Nat) : half [] n = List.replicate n 0 := by simp [half]
theorem half_full (l : List Int) {n : Nat} (h : l.length = n) : half l n = l := by simp [half, h]
theorem half_len (l : List Int) {n : Nat} (h : l.length ≤ n) : (half l n).length = n := by simp [half]; omega
theorem half_set (l : List Int) (v : Int) {n k : Nat} (h : l.length = k) (hk : k < n) : (half l n).set k v = half (l ++ [v]) n := by
  subst h
  unfold half
  rw [List.set_append_right _ _ (Nat.le_refl _), Nat.sub_self, List.append_assoc]
  congr 1
  rw [List.length_append, List.length_singleton, show n - l.length = (n - (l.length + 1)) + 1 by omega, List.replicate_succ]
  rfl
theorem half_at (l : List Int) {n k : Nat} (h : l.length = k) (hk : k < n) : (half l n)[k]'(by rw [half_len l (by omega)]; exact hk) = 0 := by
  unfold half
  rw [List.getElem_append_right (by omega)]; simp
theorem quoS_take (a T : Int) (ws : List Int) (k : Nat) (h : k < ws.length) : quoS a T (ws.take (k + 1)) = quoS a T (ws.take k) ++ [a * ws[k] / T] := by
  unfold quoS; rw [List.take_succ_eq_append_getElem h, List.map_append]; rfl
theorem rstS_take (a T : Int) (ws : List Int) (k : Nat) (h : k < ws.length) : rstS a T (ws.take (k + 1)) = rstS a T (ws.take k) ++ [a * ws[k] % T] := by
  unfold rstS; rw [List.take_succ_eq_append_getElem h, List.map_append]; rfl
def upToW (k : Nat) : List Int := (List.range k).map fun (i : Nat) => (i : Int)
theorem upToW_len (k : Nat) : (upToW k).length = k := by simp [upToW]
theorem upToW_succ (k : Nat) : upToW (k + 1) = upToW k ++ [(k : Int)] := by unfold upToW; rw [List.range_succ]; simp
theorem upToW_idn (n : Nat) : Idn 0 n (upToW n) := fun p _ h => by rw [gt_eq _ _ (by rw [upToW_len]; exact h)]; simp [upToW]
theorem blk_int {w : World} {g n k : Nat} {l : List Int} (h : w.heap[g]? = some (.cells (ints l).toArray 2 (0, 0))) (hk : k < l.length) : w.cell? ⟨g, k, none⟩ = some (.int .i64 l[k]) := by
  rw [blk_cell h, List.getElem?_toArray, ints_at _ _ hk]
theorem made_intsW (n : Nat) : madeCells #[Value.int .i64 0] n = (ints (List.replicate n 0)).toArray := by
  apply Array.ext'
  unfold madeCells
  simp only [Array.toList_map, Array.toList_range, ints, List.map_replicate]
  apply List.ext_getElem (by simp)
  intro i h1 h2
  simp [Nat.mod_one]
theorem info_n64 : (Try.prog.info? 2).map (fun i => (i.zero, i.size, i.bytes)) = some (some (.int .i64 0), 1, 8) := by kernel_rfl
theorem info_nint : (Try.prog.info? 3).map (fun i => (i.zero, i.size, i.bytes)) = some (some (.int .i64 0), 1, 8) := by kernel_rfl
theorem fine_split {a x T : Int} (ha : -4611686018427387904 ≤ a ∧ a ≤ 4611686018427387904) (hx : 0 ≤ x) (hxT : x ≤ T) : fine a x T := by
  unfold fine
  by_cases h : 0 ≤ a
  · exact .inl (Int.mul_nonneg h hx)
  · refine .inr (.inl ?_)
    have h1 : -(a * x) = -a * x := by rw [Int.neg_mul]
    have h2 : -a * x ≤ 4611686018427387904 * x := Int.mul_le_mul_of_nonneg_right (by omega) hx
    have h3 : T * 18446744073709551615 = 18446744073709551615 * T := Int.mul_comm _ _
    omega
theorem divS_split {a x T : Int} (ha : -4611686018427387904 ≤ a ∧ a ≤ 4611686018427387904) (hT : 0 < T) (hx : 0 ≤ x) (hxT : x ≤ T) : divS a x T = (a * x / T, a * x % T, 0) := by
  have := quo_bound hT hx hxT ha
  unfold divS; rw [if_pos (by simp [amt]; omega)]

/-- The loop that divides, behind k rounds. -/
structure Div (a T : Int) (ws : List Int) (n g1 g2 gr gb k : Nat) (w wr : World) : Prop where
  out : wr.heap[g1]? = some (.cells (ints (half (quoS a T (ws.take k)) n)).toArray 2 (0, 0))
  rst : wr.heap[gr]? = some (.cells (ints (half (rstS a T (ws.take k)) n)).toArray 2 (0, 0))
  ord : wr.heap[g2]? = some (.cells (ints (half (upToW k) n)).toArray 3 (0, 0))
  box : wr.heap[gb]? = some (.cells #[.slice (some ⟨gr, 0, none⟩) n n] 27 (0, 0))
  bel : Below w.heap.size w wr
theorem Div.up {a T : Int} {ws : List Int} {n g1 g2 gr gb k : Nat} {w wr w' : World} (h : Div a T ws n g1 g2 gr gb k w wr) (hb : Below wr.heap.size wr w') : Div a T ws n g1 g2 gr gb k w w' :=
  ⟨blk_below h.out hb (blk_lt h.out), blk_below h.rst hb (blk_lt h.rst), blk_below h.ord hb (blk_lt h.ord), blk_below h.box hb (blk_lt h.box), h.bel.trans (hb.mono h.bel.size)⟩
theorem Div.drew {a T : Int} {ws : List Int} {n g1 g2 gr gb k : Nat} {w wr : World} (h : Div a T ws n g1 g2 gr gb k w wr) : Div a T ws n g1 g2 gr gb k w wr.drew := ⟨h.out, h.rst, h.ord, h.box, h.bel.drew⟩
structure Apart4 (g1 g2 gr gb B : Nat) : Prop where
  a12 : g1 ≠ g2
  a1r : g1 ≠ gr
  a1b : g1 ≠ gb
  a2r : g2 ≠ gr
  a2b : g2 ≠ gb
  arb : gr ≠ gb
  b1 : B ≤ g1
  b2 : B ≤ g2
  br : B ≤ gr
  bb : B ≤ gb
theorem Div.step {a T x : Int} {ws : List Int} {n g1 g2 gr gb k : Nat} {w w1 w2 : World} (h : Div a T ws n g1 g2 gr gb k w w1) (ap : Apart4 g1 g2 gr gb w.heap.size) (hk : k < ws.length) (hn : ws.length = n) (hx : ws[k] = x)
    (hw : w2 = ((w1.setCell ⟨g1, k, none⟩ (.int .i64 (a * x / T))).setCell ⟨gr, k, none⟩ (.int .i64 (a * x % T))).setCell ⟨g2, k, none⟩ (.int .i64 (k : Int)) ∨
          w2 = ((w1.setCell ⟨gr, k, none⟩ (.int .i64 (a * x % T))).setCell ⟨g1, k, none⟩ (.int .i64 (a * x / T))).setCell ⟨g2, k, none⟩ (.int .i64 (k : Int))) : Div a T ws n g1 g2 gr gb (k + 1) w w2 := by
  have l1 : (quoS a T (ws.take k)).length = k := by rw [quoS_len, List.length_take]; omega
  have l2 : (rstS a T (ws.take k)).length = k := by rw [rstS_len, List.length_take]; omega
  have e1 : half (quoS a T (ws.take (k + 1))) n = (half (quoS a T (ws.take k)) n).set k (a * x / T) := by rw [quoS_take _ _ _ _ hk, half_set _ _ l1 (by omega), hx]
  have e2 : half (rstS a T (ws.take (k + 1))) n = (half (rstS a T (ws.take k)) n).set k (a * x % T) := by rw [rstS_take _ _ _ _ hk, half_set _ _ l2 (by omega), hx]
  have e3 : half (upToW (k + 1)) n = (half (upToW k) n).set k (k : Int) := by rw [upToW_succ, half_set _ _ (upToW_len k) (by omega)]
  obtain ⟨a12, a1r, a1b, a2r, a2b, arb, b1, b2, br, bb⟩ := ap
  rcases hw with rfl | rfl
  · refine ⟨?_, ?_, ?_, ?_, ?_⟩
    · rw [e1, ← ints_set]; exact blk_far (p := ⟨g2, k, none⟩) (blk_far (p := ⟨gr, k, none⟩) (blk_set h.out k _) a1r _) a12 _
    · rw [e2, ← ints_set]; exact blk_far (p := ⟨g2, k, none⟩) (blk_set (blk_far (p := ⟨g1, k, none⟩) h.rst (Ne.symm a1r) _) k _) (Ne.symm a2r) _
    · rw [e3, ← ints_set]; exact blk_set (blk_far (p := ⟨gr, k, none⟩) (blk_far (p := ⟨g1, k, none⟩) h.ord (Ne.symm a12) _) a2r _) k _
    · exact blk_far (p := ⟨g2, k, none⟩) (blk_far (p := ⟨gr, k, none⟩) (blk_far (p := ⟨g1, k, none⟩) h.box (Ne.symm a1b) _) (Ne.symm arb) _) (Ne.symm a2b) _
    · exact ((h.bel.setCell (p := ⟨g1, k, none⟩) b1 _).setCell (p := ⟨gr, k, none⟩) br _).setCell (p := ⟨g2, k, none⟩) b2 _
  · refine ⟨?_, ?_, ?_, ?_, ?_⟩
    · rw [e1, ← ints_set]; exact blk_far (p := ⟨g2, k, none⟩) (blk_set (blk_far (p := ⟨gr, k, none⟩) h.out a1r _) k _) a12 _
    · rw [e2, ← ints_set]; exact blk_far (p := ⟨g2, k, none⟩) (blk_far (p := ⟨g1, k, none⟩) (blk_set h.rst k _) (Ne.symm a1r) _) (Ne.symm a2r) _
    · rw [e3, ← ints_set]; exact blk_set (blk_far (p := ⟨g1, k, none⟩) (blk_far (p := ⟨gr, k, none⟩) h.ord a2r _) (Ne.symm a12) _) k _
    · exact blk_far (p := ⟨g2, k, none⟩) (blk_far (p := ⟨g1, k, none⟩) (blk_far (p := ⟨gr, k, none⟩) h.box (Ne.symm arb) _) (Ne.symm a1b) _) (Ne.symm a2b) _
    · exact ((h.bel.setCell (p := ⟨gr, k, none⟩) br _).setCell (p := ⟨g1, k, none⟩) b1 _).setCell (p := ⟨g2, k, none⟩) b2 _
/-- A quotient and a rest were laid. -/
def Mid (g1 gr k : Nat) (q r : Int) (w w3 wx : World) : Prop := Below w.heap.size w w3 ∧ (∃ wy, (wx = wy ∨ wx = wy.drew) ∧ (wy = (w3.setCell ⟨g1, k, none⟩ (.int .i64 q)).setCell ⟨gr, k, none⟩ (.int .i64 r) ∨ wy = (w3.setCell ⟨gr, k, none⟩ (.int .i64 r)).setCell ⟨g1, k, none⟩ (.int .i64 q)))
theorem same_cell {w : World} {g i : Nat} {v : Value} (h : w.cell? ⟨g, i, none⟩ = some v) (u : Value) : (w.setCell ⟨g, i, none⟩ u).cell? ⟨g, i, none⟩ = some u := World.cell?_setCell_same _ _ _ h
theorem Mid.facts {a T q r : Int} {ws : List Int} {n g1 g2 gr gb k : Nat} {w w1 w3 wx : World} (h : Mid g1 gr k q r w1 w3 wx) (D : Div a T ws n g1 g2 gr gb k w w1) (ap : Apart4 g1 g2 gr gb w.heap.size) (hk : k < n) (hn : ws.length = n) :
    wx.cell? ⟨g1, k, none⟩ = some (.int .i64 q) ∧ wx.cell? ⟨g2, k, none⟩ = some (.int .i64 0) ∧ wx.frozen? ⟨g2, k, none⟩ = false := by
  obtain ⟨hb, wy, hx, hy⟩ := h
  have D3 := D.up hb
  have l1 : (quoS a T (ws.take k)).length = k := by rw [quoS_len, List.length_take]; omega
  have c1 : ∃ v, w3.cell? ⟨g1, k, none⟩ = some v := ⟨_, blk_int (n := n) D3.out (k := k) (by rw [half_len _ (by omega)]; exact hk)⟩
  have c2 : w3.cell? ⟨g2, k, none⟩ = some (.int .i64 0) := by
    have := D3.ord
    rw [blk_cell this, List.getElem?_toArray, ints_at _ _ (by rw [half_len _ (by rw [upToW_len]; omega)]; exact hk), half_at _ (upToW_len k) hk]
  obtain ⟨v, c1⟩ := c1
  have f2 := blk_free D3.ord k
  have key : wy.cell? ⟨g1, k, none⟩ = some (.int .i64 q) ∧ wy.cell? ⟨g2, k, none⟩ = some (.int .i64 0) ∧ wy.frozen? ⟨g2, k, none⟩ = false := by
    rcases hy with rfl | rfl
    · exact ⟨far_cell (same_cell c1 _) ap.a1r _, far_cell (far_cell c2 (Ne.symm ap.a12) _) ap.a2r _, by simp [f2]⟩
    · exact ⟨same_cell (far_cell c1 ap.a1r _) _, far_cell (far_cell c2 ap.a2r _) (Ne.symm ap.a12) _, by simp [f2]⟩
  rcases hx with rfl | rfl
  · exact key
  · exact key
theorem Mid.step {a T x : Int} {ws : List Int} {n g1 g2 gr gb k : Nat} {w w1 w3 wx : World} (h : Mid g1 gr k (a * x / T) (a * x % T) w1 w3 wx) (D : Div a T ws n g1 g2 gr gb k w w1) (ap : Apart4 g1 g2 gr gb w.heap.size) (hk : k < ws.length) (hn : ws.length = n) (hx : ws[k] = x) :
    Div a T ws n g1 g2 gr gb (k + 1) w (wx.setCell ⟨g2, k, none⟩ (.int .i64 (k : Int))) := by
  obtain ⟨hb, wy, hx', hy⟩ := h
  have key : Div a T ws n g1 g2 gr gb (k + 1) w (wy.setCell ⟨g2, k, none⟩ (.int .i64 (k : Int))) := by
    rcases hy with rfl | rfl
    · exact (D.up hb).step ap hk hn hx (.inl rfl)
    · exact (D.up hb).step ap hk hn hx (.inr rfl)
  rcases hx' with rfl | rfl
  · exact key
  · exact key.drew
theorem topS_at (q d : List Int) (k i : Nat) (h : i < q.length) : (topS q d k)[i]'(by rw [topS_len]; exact h) = if (i : Int) ∈ d.take k then q[i] + 1 else q[i] := by simp [topS]
theorem topS_bd {a T : Int} {ws : List Int} (hT : 0 < T) (hw : ∀ x ∈ ws, 0 ≤ x ∧ x ≤ T) (ha : -4611686018427387904 ≤ a ∧ a ≤ 4611686018427387904) (d : List Int) (k i : Nat) (h : i < (quoS a T ws).length) :
    -4611686018427387904 ≤ (topS (quoS a T ws) d k)[i]'(by rw [topS_len]; exact h) ∧ (topS (quoS a T ws) d k)[i]'(by rw [topS_len]; exact h) ≤ 4611686018427387905 := by
  rw [topS_at _ _ _ _ h]
  have hi : i < ws.length := by rw [quoS_len] at h; exact h
  have e : (quoS a T ws)[i] = a * ws[i] / T := by simp [quoS]
  have h1 := hw ws[i] (List.getElem_mem hi)
  have h2 := quo_bound hT h1.1 h1.2 ha
  rw [e]
  split <;> omega
end Go.Proofs.Ytjimahagfkpacaa
