/- Runs on a heap: how they lie; Swap. -/
import Derived.Test.YtfcemlcocdhmfaaHE
namespace Go.Proofs.Ytfcemlcocdhmfaa
open Go.RowKit Go
set_option linter.unusedVariables false
set_option linter.unusedSimpArgs false

/-- The cells of a heap's block. -/
structure HAt (w : World) (g c : Nat) (hs : List Rn) : Prop where
  ex : ∃ cur : Array Value, w.heap[g]? = some (.cells cur 47 (0, 0)) ∧ cur.size = c * 2 ∧ ∀ k (hk : k < hs.length), cur[k * 2]? = some hs[k].lv ∧ cur[k * 2 + 1]? = some (.int .i64 hs[k].pl)
  le : hs.length ≤ c
  mx : c ≤ maxLen
def swapL (hs : List Rn) (i j : Nat) (a b : Rn) : List Rn := (hs.set i b).set j a
theorem swapL_len (hs : List Rn) (i j : Nat) (a b : Rn) : (swapL hs i j a b).length = hs.length := by simp [swapL]
theorem HAt.cell {w : World} {g c : Nat} {hs : List Rn} (h : HAt w g c hs) {k : Nat} (hk : k < hs.length) : w.cell? ⟨g, k * 2, none⟩ = some hs[k].lv ∧ w.cell? ⟨g, k * 2 + 1, none⟩ = some (.int .i64 hs[k].pl) := by
  obtain ⟨cur, h1, h2, h3⟩ := h.ex
  exact ⟨(blk_cell h1 _).trans (h3 k hk).1, (blk_cell h1 _).trans (h3 k hk).2⟩
theorem HAt.below {w w' : World} {g c : Nat} {hs : List Rn} (h : HAt w g c hs) (hb : Below w.heap.size w w') : HAt w' g c hs := by
  obtain ⟨⟨cur, h1, h2, h3⟩, h4, h5⟩ := h
  exact ⟨⟨cur, blk_below h1 hb (blk_lt h1), h2, h3⟩, h4, h5⟩
theorem HAt.free {w : World} {g c : Nat} {hs : List Rn} (h : HAt w g c hs) (i : Nat) : w.frozen? ⟨g, i, none⟩ = false := by
  obtain ⟨cur, h1, _⟩ := h.ex; exact blk_free h1 i
theorem HAt.lt {w : World} {g c : Nat} {hs : List Rn} (h : HAt w g c hs) : g < w.heap.size := by
  obtain ⟨cur, h1, _⟩ := h.ex; exact blk_lt h1
theorem HAt.swap {w : World} {g c i j : Nat} {hs : List Rn} (h : HAt w g c hs) (hi : i < hs.length) (hj : j < hs.length) (hij : i ≠ j) {a b : Rn} (ha : hs[i] = a) (hb : hs[j] = b) :
    HAt ((((w.setCell ⟨g, i * 2, none⟩ b.lv).setCell ⟨g, i * 2 + 1, none⟩ (.int .i64 b.pl)).setCell ⟨g, j * 2, none⟩ a.lv).setCell ⟨g, j * 2 + 1, none⟩ (.int .i64 a.pl)) g c (swapL hs i j a b) := by
  obtain ⟨⟨cur, h1, h2, h3⟩, h4, h5⟩ := h
  refine ⟨⟨_, blk_set (blk_set (blk_set (blk_set h1 (i * 2) _) (i * 2 + 1) _) (j * 2) _) (j * 2 + 1) _, by simp [h2], fun k hk => ?_⟩, by rw [swapL_len]; exact h4, h5⟩
  have hk' : k < hs.length := by rw [swapL_len] at hk; exact hk
  have e := h3 k hk'
  simp only [Array.getElem?_setIfInBounds, Array.size_setIfInBounds, h2]
  by_cases h6 : k = j
  · subst h6
    have e1 : (swapL hs i k a b)[k]'hk = a := by simp [swapL]
    rw [e1]
    refine ⟨?_, ?_⟩
    · rw [if_neg (by omega), if_pos rfl, if_pos (by omega)]
    · rw [if_pos rfl, if_pos (by omega)]
  · by_cases h7 : k = i
    · subst h7
      have e1 : (swapL hs k j a b)[k]'hk = b := by simp [swapL, List.getElem_set, Ne.symm h6]
      rw [e1]
      refine ⟨?_, ?_⟩
      · rw [if_neg (by omega), if_neg (by omega), if_neg (by omega), if_pos rfl, if_pos (by omega)]
      · rw [if_neg (by omega), if_neg (by omega), if_pos rfl, if_pos (by omega)]
    · have e1 : (swapL hs i j a b)[k]'hk = hs[k] := by simp [swapL, List.getElem_set, Ne.symm h6, Ne.symm h7]
      rw [e1]
      refine ⟨?_, ?_⟩
      · rw [if_neg (by omega), if_neg (by omega), if_neg (by omega), if_neg (by omega)]; exact e.1
      · rw [if_neg (by omega), if_neg (by omega), if_neg (by omega), if_neg (by omega)]; exact e.2
theorem HAt.drew {w : World} {g c : Nat} {hs : List Rn} (h : HAt w g c hs) : HAt w.drew g c hs := ⟨h.ex, h.le, h.mx⟩
theorem grown_drew {w w' : World} {r : Option Nat} (h : w.grownBy w' r) : w.grownBy w'.drew r := ⟨h.os, h.tape, h.output, h.size, h.block⟩
theorem grown_set4 {w : World} {g : Nat} (p0 p1 p2 p3 : Nat) (u0 u1 u2 u3 : Value) : w.grownBy ((((w.setCell ⟨g, p0, none⟩ u0).setCell ⟨g, p1, none⟩ u1).setCell ⟨g, p2, none⟩ u2).setCell ⟨g, p3, none⟩ u3) (some g) :=
  ⟨rfl, rfl, rfl, by simp [World.setCell], fun k _ hne => by
    have h : ∀ (w : World) (q : Nat) (u : Value), (w.setCell ⟨g, q, none⟩ u).heap[k]? = w.heap[k]? := fun w q u => Below.heap_setCell w ⟨g, q, none⟩ u k (fun e => hne (by rw [e]))
    rw [h, h, h, h]⟩
set_option maxHeartbeats 1600000 in
theorem swap_any (g n c m i j : Nat) (hs : List Rn) (a b : Rn) (w : World) (h : HAt w g m hs) (hi : i < hs.length) (hj : j < hs.length) (hin : i < n) (hjn : j < n) (hij : i ≠ j) (ha : hs[i] = a) (hb : hs[j] = b)
    (fa : ∃ A k c, a.lv = .slice A k c) (fb : ∃ A k c, b.lv = .slice A k c) (hn : n ≤ 1000000) :
    Calls Try.prog 68 #[.slice (some ⟨g, 0, none⟩) n c, .int .i64 i, .int .i64 j] w fun e w' => (∃ x, e = .returned x) ∧ HAt w' g m (swapL hs i j a b) ∧ w.grownBy w' (some g) := by
  obtain ⟨A1, n1, m1, e1⟩ := fa
  obtain ⟨A2, n2, m2, e2⟩ := fb
  obtain ⟨c0, c1⟩ := h.cell hi
  obtain ⟨d0, d1⟩ := h.cell hj
  rw [ha] at c0 c1; rw [hb] at d0 d1
  rw [e1] at c0; rw [e2] at d0
  have HS := Lib.hid (h.swap hi hj hij ha hb)
  rw [e1, e2] at HS
  have hf := fun k => h.free k
  have HG := Lib.hid (grown_set4 (w := w) (g := g) (i * 2) (i * 2 + 1) (j * 2) (j * 2 + 1) (.slice A2 n2 m2) (.int .i64 b.pl) (.slice A1 n1 m1) (.int .i64 a.pl))
  have j1 : (0 : Int) ≤ (i : Int) := by omega
  have j2 : (i : Int) < (n : Int) := by omega
  have j3 : (0 : Int) ≤ (j : Int) := by omega
  have j4 : (j : Int) < (n : Int) := by omega
  clear h ha hb e1 e2
  go_enter Try.func68, Try.ntmps68
  go_wp2_with fail
  go_region_with (fail)
  all_goals go_wp2_with fail
  all_goals go_end0
  all_goals exact ⟨⟨_, rfl⟩, HS.out.drew, grown_drew HG.out⟩
end Go.Proofs.Ytfcemlcocdhmfaa
