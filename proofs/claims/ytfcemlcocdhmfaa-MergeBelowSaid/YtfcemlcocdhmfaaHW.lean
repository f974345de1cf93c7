/- awake: one record. -/
import Derived.Test.YtfcemlcocdhmfaaXI
import Derived.Lib.SlBytesConst
namespace Go.Proofs.Ytfcemlcocdhmfaa
open Go.RowKit Go
set_option linter.unusedVariables false
set_option linter.unusedSimpArgs false

def recA : Rc := ⟨[97], 1, false, []⟩
abbrev wA1 (w : World) : World := w.alloc (.cells #[.int .u8 97] 5 (1, 2))
abbrev wA2 (w : World) : World := (wA1 w).alloc (.cells #[.slice (some ⟨w.heap.size, 0, none⟩) 1 1, .int .i64 1, .bool false, .slice none 0 0] 40)
abbrev wA3 (w : World) : World := (wA2 w).alloc (.cells #[.slice (some ⟨w.heap.size + 1, 0, none⟩) 1 1] 25)
def lsA (w : World) : List Lst := [(.slice (some ⟨w.heap.size + 1, 0, none⟩) 1 1, [⟨.slice (some ⟨w.heap.size, 0, none⟩) 1 1, .slice none 0 0, recA⟩])]
theorem below_A (w : World) : Below w.heap.size w (wA3 w) := (((Below.refl _ _).alloc (Nat.le_refl _) _).alloc (by simp) _).alloc (by simp; omega) _
theorem lsts_A (w : World) : LstsB (wA3 w) (some ⟨w.heap.size + 2, 0, none⟩) 1 (lsA w) := by
  have h1 : (wA3 w).heap[w.heap.size]? = some (.cells #[.int .u8 97] 5 (1, 2)) := blk_alloc (blk_alloc (blk_new w _ rfl) _) _
  have h2 : (wA3 w).heap[w.heap.size + 1]? = some (.cells #[.slice (some ⟨w.heap.size, 0, none⟩) 1 1, .int .i64 1, .bool false, .slice none 0 0] 40 (0, 0)) := blk_alloc (blk_new _ _ (by simp)) _
  have h3 : (wA3 w).heap[w.heap.size + 2]? = some (.cells #[.slice (some ⟨w.heap.size + 1, 0, none⟩) 1 1] 25 (0, 0)) := blk_new _ _ (by simp)
  have hs : (wA3 w).heap.size = w.heap.size + 3 := by simp
  refine ⟨rfl, ⟨rfl, fun _ => ⟨w.heap.size + 2, 0, rfl, by omega, fun j hj => ?_⟩⟩, fun x hx => ?_⟩
  · obtain rfl : j = 0 := by omega
    rw [blk_cell h3]; rfl
  · rw [lsA, List.mem_singleton] at hx
    subst hx
    refine ⟨⟨_, 1, rfl, Nat.le_refl _, ⟨rfl, fun _ => ⟨w.heap.size + 1, 0, rfl, by omega, fun j hj => ?_⟩⟩, fun q hq => ?_⟩, by simp, fun q hq => ?_⟩
    · rw [blk_cell h2]
      have hj' : j = 0 ∨ j = 1 ∨ j = 2 ∨ j = 3 := by simp at hj; omega
      rcases hj' with rfl | rfl | rfl | rfl <;> rfl
    · rw [List.mem_singleton] at hq
      subst hq
      refine ⟨⟨_, 1, rfl, ⟨rfl, fun _ => ⟨w.heap.size, 0, rfl, by omega, fun j hj => ?_⟩⟩⟩, Bs.nil⟩
      obtain rfl : j = 0 := by simp [recA] at hj; omega
      rw [blk_cell h1]; rfl
    · rw [List.mem_singleton] at hq
      subst hq
      exact ⟨by simp [recA], by simp [recA]⟩
theorem merge_A (w : World) {out : List Rc} (h : IsMerge ord2 (LL (lsA w)) out) : out.length = 1 := by
  have h1 : IsMerge ord2 ([] ++ [[recA]]) (two ord2 [] [recA]) := (merge_nil (o := ord2)).snoc toOrd (List.pairwise_singleton _ _)
  rw [IsMerge.one toOrd h h1]; simp [two]
set_option maxHeartbeats 800000 in
theorem awake_any (w : World) : Calls Try.prog 9 #[] w fun e w' => e = .returned (.bool true) ∧ Below w.heap.size w w' := by
  have HC := Lib.hid (all_any (some ⟨w.heap.size + 2, 0, none⟩) 1 1 (lsA w) (wA3 w) (lsts_A w) (by omega) (by simp [lsA]))
  have HB := Lib.hid (below_A w)
  have kc := fun (w : World) (C : Array Value) (n c : Nat) => Lib.run_convert_bytes_const (P := Try.prog) w 38 5 C n c Try.underlying38 Try.underlying5
  go_enter Try.func9, Try.ntmps9
  go_wp2_with fail
  refine HC.out.mono ?_
  rintro e w1 ⟨he, hb⟩
  rw [if_pos (by intro x hx; rw [lsA, List.mem_singleton] at hx; subst hx; rfl)] at he
  obtain ⟨vo, qs, rfl, hr, hm, _⟩ := he
  have hl := merge_A w hm
  rw [List.length_map] at hl
  have HB2 := Lib.hid (HB.out.trans (hb.mono HB.out.size))
  obtain ⟨A, c, rfl, _⟩ := hr
  rw [hl]
  clear HC HB hb hm hl
  go_wp2_with fail
  go_ret
  exact ⟨by first | rfl | simp, HB2.out⟩
end Go.Proofs.Ytfcemlcocdhmfaa
