/- Words on memory that the walks of this seat use. -/
import Derived.WalkKit
import Derived.Below
import Derived.Deep.QuietTactic
import Derived.BigQuiet
import Derived.Lib.Hide
import Derived.Deep.Draws
import Derived.WalkSmall
import Derived.Handy
namespace Go.Proofs.Ytddbmaoighimmaa
open Go.RowKit

/-- The slice value '.slice A n _' reads as the cells xs, s cells an element; it lies below block B. -/
def Rd (w : World) (B s : Nat) (A : Option Addr) (n : Nat) (xs : List Value) : Prop :=
  xs.length = n * s ∧ (0 < n → ∃ b off, A = some ⟨b, off, none⟩ ∧ b < B ∧ ∀ j, j < n * s → w.cell? ⟨b, off + j, none⟩ = xs[j]?)

section
variable {w w' : World} {B s n : Nat} {A : Option Addr} {xs : List Value}
theorem Rd.len (h : Rd w B s A n xs) : xs.length = n * s := h.1
theorem Rd.of_cells (h : Rd w B s A n xs) (hk : ∀ p : Addr, p.block < B → w'.cell? p = w.cell? p) : Rd w' B s A n xs :=
  ⟨h.1, fun hn => let ⟨b, off, e, hb, hc⟩ := h.2 hn; ⟨b, off, e, hb, fun j hj => (hk ⟨b, off + j, none⟩ hb).trans (hc j hj)⟩⟩
theorem Rd.below (h : Rd w B s A n xs) (hb : Below B w w') : Rd w' B s A n xs := h.of_cells fun _ hp => hb.cell hp
theorem Rd.wider {B' : Nat} (h : Rd w B s A n xs) (hB : B ≤ B') : Rd w B' s A n xs :=
  ⟨h.1, fun hn => let ⟨b, off, e, hb, hc⟩ := h.2 hn; ⟨b, off, e, Nat.lt_of_lt_of_le hb hB, hc⟩⟩
theorem Rd.fresh (w : World) (cs : Array Value) (t : TypeId) (n s : Nat) (h : cs.size = n * s) : Rd (w.alloc (.cells cs t)) (w.alloc (.cells cs t)).heap.size s (some ⟨w.heap.size, 0, none⟩) n cs.toList :=
  ⟨by simpa using h, fun _ => ⟨_, _, rfl, by simp, fun j _ => by rw [World.cell?_alloc_at _ _ _ _ rfl]; simp⟩⟩
theorem Rd.nil : Rd w B s A 0 [] := ⟨by simp, fun h => absurd h (by omega)⟩
end

theorem size_drewN (w : World) (n : Nat) : (w.drewN n).heap.size = w.heap.size := rfl
/-- An amount. -/
def amt (z : Int) : Bool := decide (-4611686018427387904 ≤ z ∧ z ≤ 4611686018427387904)
def ints (zs : List Int) : List Value := zs.map (Value.int .i64)
theorem ints_len (zs : List Int) : (ints zs).length = zs.length := by simp [ints]
theorem ints_at (zs : List Int) (k : Nat) (h : k < zs.length) : (ints zs)[k]? = some (.int .i64 zs[k]) := by simp [ints, h]

end Go.Proofs.Ytddbmaoighimmaa
namespace Go.Proofs.Ytddbmaoighimmaa
/-- An amount, or that it is none. -/
def told (z : Int) : Int × Int := if amt z then (z, 0) else (0, 2)
def sumS (zs : List Int) : Int × Int := if zs.all amt then told zs.sum else (0, 1)
@[reducible] def pr (p : Int × Int) : Value := .tuple #[.int .i64 p.1, .int .i64 p.2]
end Go.Proofs.Ytddbmaoighimmaa
