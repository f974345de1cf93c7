/- order: how a record stands to a key at a moment. -/
import Derived.Test.YtpgbinijocbfmaaB
namespace Go.Proofs.Ytpgbinijocbfmaa
open Go.RowKit Go
set_option linter.unusedVariables false
set_option linter.unusedSimpArgs false

def orI (x y : Int) : Int := if x = 0 then y else x
theorem orI_0 (y : Int) : orI 0 y = y := rfl
theorem orI_1 {x : Int} (h : ¬ x = 0) (y : Int) : orI x y = x := if_neg h
theorem or_any (b off c : Nat) (x y : Int) (w : World) (h0 : w.cell? ⟨b, off, none⟩ = some (.int .i64 x)) (h1 : w.cell? ⟨b, off + 1, none⟩ = some (.int .i64 y)) :
    Calls Try.prog 32 #[.slice (some ⟨b, off, none⟩) 2 c] w fun e w' => e = .returned (.int .i64 (orI x y)) ∧ w' = w := by
  by_cases hx : x = 0
  · subst hx
    by_cases hy : y = 0
    · subst hy
      go_enter Try.func32, Try.ntmps32
      go_wp2_with fail
      refine wp_loop_rounds 3 ?_
      rw [rounds_succ]
      go_wp2_with fail
      rw [rounds_succ]
      go_wp2_with fail
      rw [rounds_succ]
      go_wp2_with fail
      all_goals go_ret
      all_goals exact ⟨by rw [orI_0]; rfl, rfl⟩
    · have hy' : (y != 0) = true := by simpa using hy
      go_enter Try.func32, Try.ntmps32
      go_wp2_with fail
      refine wp_loop_rounds 3 ?_
      rw [rounds_succ]
      go_wp2_with fail
      rw [rounds_succ]
      go_wp2_with fail
      all_goals go_ret
      all_goals exact ⟨by rw [orI_0]; rfl, rfl⟩
  · have hx' : (x != 0) = true := by simpa using hx
    go_enter Try.func32, Try.ntmps32
    go_wp2_with fail
    refine wp_loop_rounds 3 ?_
    rw [rounds_succ]
    go_wp2_with fail
    all_goals go_ret
    all_goals exact ⟨by rw [orI_1 hx]; rfl, rfl⟩

theorem or_blk (g t : Nat) (x y : Int) (w : World) (h : w.heap[g]? = some (.cells #[.int .i64 x, .int .i64 y] t (0, 0))) :
    Calls Try.prog 32 #[.slice (some ⟨g, 0, none⟩) 2 2] w fun e w' => e = .returned (.int .i64 (orI x y)) ∧ w' = w :=
  or_any g 0 2 x y w (by simp [World.cell?, h]) (by simp [World.cell?, h])

/-- A record's key, moment, whether it was deleted, value. -/
structure Rc where
  key : List UInt8
  seq : Int
  del : Bool
  val : List UInt8
def ordS (r : Rc) (key : List UInt8) (seq : Int) : Int := orI (Lib.compareBytes r.key key) (Lib.compareInt seq r.seq)

theorem cells5 {w : World} {v0 v1 v2 v3 v4 : Value} {t g : Nat} (h : w.heap[g]? = some (.cells #[v0, v1, v2, v3, v4] t (0, 0))) :
    w.cell? ⟨g, 0, none⟩ = some v0 ∧ w.cell? ⟨g, 1, none⟩ = some v1 ∧ w.cell? ⟨g, 2, none⟩ = some v2 ∧ w.cell? ⟨g, 3, none⟩ = some v3 ∧ w.cell? ⟨g, 4, none⟩ = some v4 ∧ ∀ i, w.frozen? ⟨g, i, none⟩ = false := by
  simp [World.cell?, World.frozen?, h]

set_option maxHeartbeats 800000 in
theorem order_any (g T : Nat) (kv dv vv nv u : Value) (r : Rc) (key : List UInt8) (seq : Int) (B : Nat) (w : World) (hg : w.heap[g]? = some (.cells #[kv, .int .i64 r.seq, dv, vv, nv] T (0, 0))) (hk : Bs w w.heap.size kv r.key) (hu : Bs w w.heap.size u key) :
    Calls Try.prog 25 #[.pointer (some ⟨g, 0, none⟩), u, .int .i64 seq] w fun e w' => e = .returned (.int .i64 (ordS r key seq)) ∧ Below w.heap.size w w' := by
  obtain ⟨c0, c1, c2, c3, c4, c5⟩ := cells5 hg
  have hgl := blk_lt hg
  go_enter Try.func25, Try.ntmps25
  go_wp2_with fail
  go_region_with (first
    | (go_at_call 33; refine (compare_any kv u r.key key _ _ _ (by first | exact hk | exact hk.of_cells (fun _ _ => rfl)) (by first | exact hu | exact hu.of_cells (fun _ _ => rfl))).mono ?_; rintro e w' ⟨rfl, rfl⟩)
    | (go_at_call 34; refine (Try.cmp_Compare_int seq r.seq _).mono ?_; rintro e w' ⟨rfl, rfl⟩)
    | (go_at_call 32; refine (or_blk w.heap.size 3 (Lib.compareBytes r.key key) (Lib.compareInt seq r.seq) (w.alloc (.cells #[.int .i64 (Lib.compareBytes r.key key), .int .i64 (Lib.compareInt seq r.seq)] 3)).drew (blk_new w (.cells #[.int .i64 (Lib.compareBytes r.key key), .int .i64 (Lib.compareInt seq r.seq)] 3) rfl)).mono ?_; rintro e w' ⟨rfl, rfl⟩))
  all_goals go_wp2_with fail
  all_goals go_ret
  all_goals exact ⟨rfl, (by repeat' (first | (with_reducible exact Below.refl _ _) | (with_reducible refine Below.alloc ?_ ?_ _) | (with_reducible refine below_drewN ?_ _) | (with_reducible refine Below.drew ?_) | (with_reducible refine Below.setCell ?_ ?_ _) | (with_reducible refine Below.trans ?_ (Below.mono HW0.out ?_)) | (with_reducible refine Below.trans ?_ (Below.mono HW1.out ?_)) | (with_reducible refine Below.trans ?_ (Below.mono HW2.out ?_)) | (with_reducible refine Below.trans ?_ (Below.mono HW3.out ?_)) | (with_reducible refine Below.trans ?_ (Below.mono HW4.out ?_)) | (with_reducible refine Below.trans ?_ (Below.mono HW5.out ?_)) | (with_reducible refine Below.trans ?_ (Below.mono HW6.out ?_)) | (with_reducible refine Below.trans ?_ (Below.mono HW7.out ?_)) | (with_reducible exact Nat.le_refl _) | omega | (simp only [World.size_alloc, World.size_setCell, World.size_drew, size_drewN]; omega) | (simp; done) | (simp; omega)))⟩
end Go.Proofs.Ytpgbinijocbfmaa
