/- Bytes as a string; two lists of items that are the same. -/
import Derived.Test.YtbjjgnaojoaoiaaGreatK60
import Derived.Test.YtbjjgnaojoaoiaaGreatK49
import Derived.Laws.BytesArg
namespace Go.Proofs.YtbjjgnaojoaoiaaGreat
open Go.RowKit Go
set_option linter.unusedVariables false
set_option linter.unusedSimpArgs false

def strL (l : List Nat) : ByteArray := strOfNums (l.map fun x : Nat => (x : Int))
set_option maxRecDepth 100000 in
theorem conv_bytes {w : World} {B n c : Nat} {A : Option Addr} {l : List Nat} (h : w.ownsRow B 5 1 (.slice A n c) n (bys l)) (hn : l.length = n) (h0 : 0 < n) :
    (convert 66 9 (.slice A n c)).run Tryz.prog w = .ok (.string (strL l)) w := by
  obtain ⟨g, cap, e, _⟩ := h.form h0
  injection e with e1 _ e3
  subst e1 e3
  refine run_convert_bytes_arg w 66 5 Tryz.underlying66 Tryz.underlying5 g 0 n c (l.map fun x : Nat => (x : Int)) (by rw [List.length_map]; exact hn) (fun i hi => ?_) 9 Tryz.underlying9
  rw [Nat.zero_add]
  have hil : i < l.length := by omega
  have := (own_cell h (bys_at hil)).1
  rw [this]
  congr 1
  rw [List.getD_eq_getElem?_getD, List.getElem?_map, List.getElem?_eq_getElem hil]; rfl
theorem saveB_pos (S : Ac) : 0 < (saveB S).length := by
  unfold saveB saveN
  rw [numsB_app, numsB_app, numsB_app, numsB_cons]
  have := numB_pos S.day.toNat
  simp only [List.length_append]; omega
set_option maxHeartbeats 3200000 in
set_option maxRecDepth 100000 in
theorem sameItU_any (A B : Option Addr) (xs : List Dq) (n m c c' : Nat) (w : World) (hx : Rd w w.heap.size 4 A n (itCs xs)) (hy : Rd w w.heap.size 4 B m (itCs xs)) (hn : n ≤ 1000000) :
    Calls Tryz.prog 28 #[.slice A n c, .slice B m c'] w fun e w' => e = .returned (.bool true) ∧ Below w.heap.size w w' := by
  have ex : xs.length = n := by have := hx.1; rw [itCs_len] at this; omega
  have ey : xs.length = m := by have := hy.1; rw [itCs_len] at this; omega
  have hnm : n = m := by omega
  subst hnm
  have HX := Lib.hid hx; have HY := Lib.hid hy; have EX := Lib.hid ex
  clear hx hy ex ey
  go_enter Tryz.func28, Tryz.ntmps28
  go_wp2_with fail
  go_loopg [5] n (fun gh vi wr => ∃ k : Nat, gh = n - k ∧ k ≤ n ∧ vi = .int .i64 k ∧ Below w.heap.size w wr)
  case atStart => exact ⟨0, rfl, by omega, rfl, Below.refl _ _⟩
  case round =>
    obtain ⟨k, hgk, hk, rfl, hb⟩ := hrel
    have HG := Lib.hid hgk; have HB := Lib.hid hb
    clear hgk hb
    by_cases hlt : k < n
    · have h1 : k < xs.length := by have := EX.out; omega
      obtain ⟨b1, o1, rfl, hb1, x0, x1, x2, x3⟩ := (HX.out.below HB.out).it h1
      obtain ⟨b2, o2, rfl, hb2, y0, y1, y2, y3⟩ := (HY.out.below HB.out).it h1
      have i1 : (0 : Int) ≤ (k : Int) := by omega
      have i2 : (k : Int) < (n : Int) := by omega
      generalize xs[k] = x at *
      go_wp2_with fail
      go_quiet (fail)
      clear x0 x1 x2 x3 y0 y1 y2 y3
      go_wp2_with fail
      go_roundg (n - (k + 1))
      case measure => have := HG.out; omega
      case rel => exact ⟨k + 1, rfl, by omega, by go_num, below_drewN HB.out _⟩
    · go_wp2_with fail
      go_ret
      exact ⟨rfl, HB.out⟩
theorem save_enter (u : Value) (w : World) : (callFunc 26 #[u]).run Tryz.prog w = .ok (.enter 26 #[u]) w := by kernel_rfl
end Go.Proofs.YtbjjgnaojoaoiaaGreat
