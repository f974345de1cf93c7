/- order: how a record stands to a key at a moment. -/
import Derived.Test.YtfcemlcocdhmfaaB
namespace Go.Proofs.Ytfcemlcocdhmfaa
open Go.RowKit Go
set_option linter.unusedVariables false
set_option linter.unusedSimpArgs false

def orI (x y : Int) : Int := if x = 0 then y else x
theorem orI_0 (y : Int) : orI 0 y = y := rfl
theorem orI_1 {x : Int} (h : ¬ x = 0) (y : Int) : orI x y = x := if_neg h
theorem or_any (b off c : Nat) (x y : Int) (w : World) (h0 : w.cell? ⟨b, off, none⟩ = some (.int .i64 x)) (h1 : w.cell? ⟨b, off + 1, none⟩ = some (.int .i64 y)) :
    Calls Try.prog 40 #[.slice (some ⟨b, off, none⟩) 2 c] w fun e w' => e = .returned (.int .i64 (orI x y)) ∧ w' = w := by
  by_cases hx : x = 0
  · subst hx
    by_cases hy : y = 0
    · subst hy
      go_enter Try.func40, Try.ntmps40
      go_wp2_with fail
      refine wp_loop_rounds 3 ?_
      rw [rounds_succ]
      go_wp2_with fail
      rw [rounds_succ]
      go_wp2_with fail
      rw [rounds_succ]
      go_wp2_with fail
      all_goals go_ret
      all_goals exact ⟨by rw [orI_0]; rfl, rfl⟩
    · have hy' : (y != 0) = true := by simpa using hy
      go_enter Try.func40, Try.ntmps40
      go_wp2_with fail
      refine wp_loop_rounds 3 ?_
      rw [rounds_succ]
      go_wp2_with fail
      rw [rounds_succ]
      go_wp2_with fail
      all_goals go_ret
      all_goals exact ⟨by rw [orI_0]; rfl, rfl⟩
  · have hx' : (x != 0) = true := by simpa using hx
    go_enter Try.func40, Try.ntmps40
    go_wp2_with fail
    refine wp_loop_rounds 3 ?_
    rw [rounds_succ]
    go_wp2_with fail
    all_goals go_ret
    all_goals exact ⟨by rw [orI_1 hx]; rfl, rfl⟩

theorem or_blk (g t : Nat) (x y : Int) (w : World) (h : w.heap[g]? = some (.cells #[.int .i64 x, .int .i64 y] t (0, 0))) :
    Calls Try.prog 40 #[.slice (some ⟨g, 0, none⟩) 2 2] w fun e w' => e = .returned (.int .i64 (orI x y)) ∧ w' = w :=
  or_any g 0 2 x y w (by simp [World.cell?, h]) (by simp [World.cell?, h])

/-- A record's key, moment, whether it was deleted, value. -/
structure Rc where
  key : List UInt8
  seq : Int
  del : Bool
  val : List UInt8
def ordS (r : Rc) (key : List UInt8) (seq : Int) : Int := orI (Lib.compareBytes r.key key) (Lib.compareInt seq r.seq)

theorem cells5 {w : World} {v0 v1 v2 v3 v4 : Value} {t g : Nat} (h : w.heap[g]? = some (.cells #[v0, v1, v2, v3, v4] t (0, 0))) :
    w.cell? ⟨g, 0, none⟩ = some v0 ∧ w.cell? ⟨g, 1, none⟩ = some v1 ∧ w.cell? ⟨g, 2, none⟩ = some v2 ∧ w.cell? ⟨g, 3, none⟩ = some v3 ∧ w.cell? ⟨g, 4, none⟩ = some v4 ∧ ∀ i, w.frozen? ⟨g, i, none⟩ = false := by
  simp [World.cell?, World.frozen?, h]

end Go.Proofs.Ytfcemlcocdhmfaa
