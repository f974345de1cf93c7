/- What a sort under way stands in; the closure that compares; ranges exchanged; a rotation. -/
import Derived.Test.YtjimahagfkpacaaW
import Derived.Test.YtjimahagfkpacaaSP
import Derived.Deep.LoopGhost
import Derived.BigRegion
import Derived.Test.YtjimahagfkpacaaChecked
import Derived.Shelf.Small.Wraps
import Derived.Deep.RegionWith
import Derived.IntWalk
import Derived.Outline
namespace Go.Proofs.Ytjimahagfkpacaa
open Go.RowKit Go
set_option linter.unusedVariables false
set_option linter.unusedSimpArgs false

theorem cmpI_lt {x y : Int} (h : x < y) : Lib.compareInt x y = -1 := by unfold Lib.compareInt; rw [if_pos h]
theorem cmpI_gt {x y : Int} (h : y < x) : Lib.compareInt x y = 1 := by unfold Lib.compareInt; rw [if_neg (by omega), if_pos h]
theorem cmpI_eq {x y : Int} (h1 : ¬ x < y) (h2 : ¬ y < x) : Lib.compareInt x y = 0 := by unfold Lib.compareInt; rw [if_neg h1, if_neg (by omega)]
theorem cmpI_neg (x y : Int) : Lib.compareInt x y < 0 ↔ x < y := by unfold Lib.compareInt; split <;> (try split) <;> omega
theorem cmpI64 (x y : Int) (w : World) : Calls Try.prog 36 #[.int .i64 x, .int .i64 y] w fun e w' => e = .returned (.int .i64 (Lib.compareInt x y)) ∧ w' = w := by
  by_cases h1 : x < y
  · rw [cmpI_lt h1]
    go_enter Try.func36, Try.ntmps36
    go_wp2
    go_ret
    exact ⟨rfl, rfl⟩
  · by_cases h2 : y < x
    · rw [cmpI_gt h2]
      go_enter Try.func36, Try.ntmps36
      go_wp2
      go_ret
      exact ⟨rfl, rfl⟩
    · rw [cmpI_eq h1 h2]
      go_enter Try.func36, Try.ntmps36
      go_wp2
      go_ret
      exact ⟨rfl, rfl⟩

/-- Only block g has turned. -/
structure OnlyB (g : Nat) (w w' : World) : Prop where
  os : w'.os = w.os
  tape : w'.tape = w.tape
  output : w'.output = w.output
  size : w'.heap.size = w.heap.size
  block : ∀ b, b ≠ g → w'.heap[b]? = w.heap[b]?
theorem OnlyB.refl (g : Nat) (w : World) : OnlyB g w w := ⟨rfl, rfl, rfl, rfl, fun _ _ => rfl⟩
theorem OnlyB.trans {g : Nat} {a b c : World} (h : OnlyB g a b) (k : OnlyB g b c) : OnlyB g a c := ⟨k.os.trans h.os, k.tape.trans h.tape, k.output.trans h.output, k.size.trans h.size, fun x hx => (k.block x hx).trans (h.block x hx)⟩
theorem OnlyB.setCell {g : Nat} {w w' : World} (h : OnlyB g w w') (i : Nat) (v : Value) : OnlyB g w (w'.setCell ⟨g, i, none⟩ v) :=
  ⟨h.os, h.tape, h.output, by simpa using h.size, fun b hb => (Below.heap_setCell _ _ _ _ hb).trans (h.block b hb)⟩
theorem OnlyB.drew {g : Nat} {w w' : World} (h : OnlyB g w w') : OnlyB g w w'.drew := ⟨h.os, h.tape, h.output, h.size, h.block⟩
theorem OnlyB.drewN {g : Nat} {w w' : World} (h : OnlyB g w w') (n : Nat) : OnlyB g w (w'.drewN n) := ⟨h.os, h.tape, h.output, h.size, h.block⟩
theorem OnlyB.to_below {B g : Nat} {w0 w w' : World} (h0 : Below B w0 w) (h : OnlyB g w w') (hg : B ≤ g) : Below B w0 w' :=
  ⟨h.os.trans h0.os, h.tape.trans h0.tape, h.output.trans h0.output, by rw [h.size]; exact h0.size, fun b hb => (h.block b (by omega)).trans (h0.block b hb)⟩

/-- A row of numbers of the call's own, being turned. -/
structure AtR (g n : Nat) (w0 w : World) (d : List Int) : Prop where
  only : OnlyB g w0 w
  row : w.heap[g]? = some (.cells (ints d).toArray 3 (0, 0))
  len : d.length = n
theorem ints_set (d : List Int) (i : Nat) (v : Int) : (ints d).toArray.setIfInBounds i (.int .i64 v) = (ints (d.set i v)).toArray := by
  simp [ints, List.map_set]
theorem AtR.drew {g n : Nat} {w0 w : World} {d : List Int} (h : AtR g n w0 w d) : AtR g n w0 w.drew d := ⟨h.only.drew, h.row, h.len⟩
theorem AtR.drewN {g n : Nat} {w0 w : World} {d : List Int} (h : AtR g n w0 w d) (k : Nat) : AtR g n w0 (w.drewN k) d := ⟨h.only.drewN k, h.row, h.len⟩
theorem AtR.set {g n : Nat} {w0 w : World} {d : List Int} (h : AtR g n w0 w d) (i : Nat) (v : Int) : AtR g n w0 (w.setCell ⟨g, i, none⟩ (.int .i64 v)) (d.set i v) :=
  ⟨h.only.setCell i _, by rw [blk_set h.row, ints_set], by simpa using h.len⟩
theorem AtR.at_ {g n : Nat} {w0 w : World} {d : List Int} (h : AtR g n w0 w d) {p : Nat} (hp : p < n) : w.cell? ⟨g, p, none⟩ = some (.int .i64 (gt d p)) := by
  rw [blk_cell h.row, List.getElem?_toArray, ints_at d p (by rw [h.len]; exact hp), gt_eq d p (by rw [h.len]; exact hp)]
theorem AtR.free {g n : Nat} {w0 w : World} {d : List Int} (h : AtR g n w0 w d) (p : Nat) : w.frozen? ⟨g, p, none⟩ = false := blk_free h.row p
theorem AtR.swp {g n : Nat} {w0 w : World} {d : List Int} (h : AtR g n w0 w d) (i j : Nat) : AtR g n w0 ((w.setCell ⟨g, i, none⟩ (.int .i64 (gt d j))).setCell ⟨g, j, none⟩ (.int .i64 (gt d i))) (swp d i j) := (h.set i _).set j _

set_option maxHeartbeats 4000000 in
theorem swapR_any (g n c a b k : Nat) (d : List Int) (cl : Value) (w0 w : World) (h : AtR g n w0 w d) (hab : a + k ≤ b) (hb : b + k ≤ n) (hn : n ≤ 1000000) :
    Calls Try.prog 50 #[.slice (some ⟨g, 0, none⟩) n c, .int .i64 a, .int .i64 b, .int .i64 k, cl] w fun e w' => e = .returned (.tuple #[]) ∧ ∃ d', Swd a b k d d' ∧ AtR g n w0 w' d' := by
  have H := Lib.hid h; clear h
  go_enter Try.func50, Try.ntmps50
  go_wp2_with fail
  go_loopg [10] k (fun gh vi wr => ∃ (i : Nat) (d' : List Int), gh = k - i ∧ i ≤ k ∧ vi = .int .i64 i ∧ Swd a b i d d' ∧ AtR g n w0 wr d')
  case atStart => exact ⟨0, d, rfl, by omega, rfl, Swd.refl a b d, H.out⟩
  case round =>
    obtain ⟨i, d', hgk, hi, rfl, hs, hr⟩ := hrel
    have HG := Lib.hid hgk; have HS := Lib.hid hs; have HR := Lib.hid hr
    clear hgk hs hr
    by_cases hlt : i < k
    · have c1 := HR.out.at_ (p := a + i) (by omega)
      have c2 := HR.out.at_ (p := b + i) (by omega)
      have f1 := HR.out.free (a + i)
      have f2 := HR.out.free (b + i)
      have HSW := Lib.hid (HR.out.swp (a + i) (b + i))
      generalize gt d' (a + i) = va at *
      generalize gt d' (b + i) = vb at *
      have i1 : (0 : Int) ≤ (a : Int) + i := by omega
      have i2 : (a : Int) + i < (n : Int) := by omega
      have i3 : (0 : Int) ≤ (b : Int) + i := by omega
      have i4 : (b : Int) + i < (n : Int) := by omega
      have w1 : IntKind.i64.wrap ((a : Int) + i) = (a : Int) + i := IntWalk.i64_in _ (by omega)
      have w2 : IntKind.i64.wrap ((b : Int) + i) = (b : Int) + i := IntWalk.i64_in _ (by omega)
      have t1 : ((a : Int) + i).toNat = a + i := by omega
      have t2 : ((b : Int) + i).toNat = b + i := by omega
      have ne : a + i ≠ b + i := by omega
      go_wp2_with fail
      go_region
      clear w1 w2 t1 t2 c1 c2 f1 f2
      go_wp2_with fail
      go_roundg (k - (i + 1))
      case measure => have := HG.out; omega
      case rel => exact ⟨i + 1, _, rfl, by omega, by go_num, HS.out.step (by omega) (by have := HS.out.len; have := HR.out.len; omega), HSW.out.drew⟩
    · go_wp2_with fail
      go_end0
      have hi' : i = k := by omega
      subst hi'
      exact ⟨rfl, d', HS.out, HR.out⟩

set_option maxHeartbeats 4000000 in
theorem rotR_any (g n c a m b : Nat) (d : List Int) (cl : Value) (w0 w : World) (h : AtR g n w0 w d) (hab : a < m) (hb : m < b) (hbn : b ≤ n) (hn : n ≤ 1000000) :
    Calls Try.prog 49 #[.slice (some ⟨g, 0, none⟩) n c, .int .i64 a, .int .i64 m, .int .i64 b, cl] w fun e w' => e = .returned (.tuple #[]) ∧ ∃ d', Rotd a m b d d' ∧ AtR g n w0 w' d' := by
  have H := Lib.hid h; clear h
  have q1 : ((m : Int) - a) = ((m - a : Nat) : Int) := by omega
  have q2 : ((b : Int) - m) = ((b - m : Nat) : Int) := by omega
  have HST := Lib.hid (RotAt.start (d := d) hab hb)
  go_enter Try.func49, Try.ntmps49
  go_wp2_with fail
  clear q1 q2
  go_loopg [10, 11] (m - a + (b - m)) (fun gh vi vj wr => ∃ (i j : Nat) (d' : List Int), gh = i + j ∧ vi = .int .i64 i ∧ vj = .int .i64 j ∧ RotAt a m b i j d d' ∧ AtR g n w0 wr d')
  case atStart => exact ⟨m - a, b - m, d, rfl, rfl, rfl, HST.out, H.out⟩
  case round =>
    obtain ⟨i, j, d', hgk, rfl, rfl, hs, hr⟩ := hrel
    have h1 := hs.i1; have h2 := hs.j1; have h3 := hs.ia; have h4 := hs.jb
    have HG := Lib.hid hgk; have HS := Lib.hid hs; have HR := Lib.hid hr
    clear hgk hs hr
    have q1 : ((m : Int) - i) = ((m - i : Nat) : Int) := by omega
    rcases Nat.lt_trichotomy j i with hij | hij | hij
    · have q2 : ((i : Int) - j) = ((i - j : Nat) : Int) := by omega
      have hne : ((i : Int) == (j : Int)) = false := by simp; omega
      go_wp2_with fail
      refine (swapR_any g n c (m - i) m j d' cl w0 _ HR.out (by omega) (by omega) hn).mono ?_
      rintro e w1 ⟨rfl, d2, hsw, hat⟩
      have HSW := Lib.hid hsw; have HAT := Lib.hid hat; clear hsw hat
      go_wp2_with fail
      clear q1 q2 hne
      go_roundg (i - j + j)
      case measure => have := HG.out; omega
      case rel => exact ⟨i - j, j, d2, rfl, rfl, rfl, HS.out.fst hij HSW.out, HAT.out⟩
    · obtain rfl := hij
      go_wp2_with fail
      refine (swapR_any g n c (m - j) m j d' cl w0 _ HR.out (by omega) (by omega) hn).mono ?_
      rintro e w1 ⟨rfl, d2, hsw, hat⟩
      have HSW := Lib.hid hsw; have HAT := Lib.hid hat; clear hsw hat
      go_wp2_with fail
      go_end0
      exact ⟨rfl, d2, HS.out.last HSW.out, HAT.out⟩
    · have q2 : ((j : Int) - i) = ((j - i : Nat) : Int) := by omega
      have q3 : ((m : Int) + j - i) = ((m + j - i : Nat) : Int) := by omega
      have hne : ((i : Int) == (j : Int)) = false := by simp; omega
      go_wp2_with fail
      refine (swapR_any g n c (m - i) (m + j - i) i d' cl w0 _ HR.out (by omega) (by omega) hn).mono ?_
      rintro e w1 ⟨rfl, d2, hsw, hat⟩
      have HSW := Lib.hid hsw; have HAT := Lib.hid hat; clear hsw hat
      go_wp2_with fail
      clear q1 q2 q3 hne
      go_roundg (i + (j - i))
      case measure => have := HG.out; omega
      case rel => exact ⟨i, j - i, d2, rfl, rfl, rfl, HS.out.snd hij HSW.out, HAT.out⟩
end Go.Proofs.Ytjimahagfkpacaa
