/- the reference's wide numbers: Of, Add. -/
import Derived.Test.YtcoeooakimbkbaaR
import Derived.Deep.RegionHeld3
import Derived.Deep.RegionWith
namespace Go.Proofs.Ytcoeooakimbkbaa
open Go.RowKit Go
set_option linter.unusedSimpArgs false
set_option linter.unusedVariables false
set_option linter.unusedVariables false

/-- 2^128, behind a name. -/
def big : Int := 340282366920938463463374607431768211456
/-- The digit i of a size, base 2^32. -/
def dg : Nat → Int → Int
  | 0, m => m % 4294967296
  | 1, m => m / 4294967296 % 4294967296
  | 2, m => m / 18446744073709551616 % 4294967296
  | _, m => m / 79228162514264337593543950336 % 4294967296
theorem dg_bd (i : Nat) (m : Int) : 0 ≤ dg i m ∧ dg i m ≤ 4294967295 := by
  unfold dg; split <;> omega
@[reducible] def wd (n : Bool) (m : Int) : Value := .agg #[.bool n, .int .u64 (dg 0 m), .int .u64 (dg 1 m), .int .u64 (dg 2 m), .int .u64 (dg 3 m)]
def wz (n : Bool) (m : Int) : Int := if n then -m else m
theorem V_dg {m : Int} (h0 : 0 ≤ m) (h1 : m < big) : V (dg 0 m) (dg 1 m) (dg 2 m) (dg 3 m) = m := by
  unfold big at h1; simp only [V, dg]; omega
theorem dg_V {a0 a1 a2 a3 : Int} (h0 : 0 ≤ a0 ∧ a0 ≤ 4294967295) (h1 : 0 ≤ a1 ∧ a1 ≤ 4294967295) (h2 : 0 ≤ a2 ∧ a2 ≤ 4294967295) (h3 : 0 ≤ a3 ∧ a3 ≤ 4294967295) :
    dg 0 (V a0 a1 a2 a3) = a0 ∧ dg 1 (V a0 a1 a2 a3) = a1 ∧ dg 2 (V a0 a1 a2 a3) = a2 ∧ dg 3 (V a0 a1 a2 a3) = a3 := by
  simp only [V, dg]; omega

theorem d4_V {a0 a1 a2 a3 : Int} {m : Int} (h0 : 0 ≤ a0 ∧ a0 ≤ 4294967295) (h1 : 0 ≤ a1 ∧ a1 ≤ 4294967295) (h2 : 0 ≤ a2 ∧ a2 ≤ 4294967295) (h3 : 0 ≤ a3 ∧ a3 ≤ 4294967295) (h : m = V a0 a1 a2 a3) :
    d4 a0 a1 a2 a3 = d4 (dg 0 m) (dg 1 m) (dg 2 m) (dg 3 m) := by
  obtain ⟨e0, e1, e2, e3⟩ := dg_V h0 h1 h2 h3
  rw [h, e0, e1, e2, e3]

@[reducible] def dm (m : Int) : Value := d4 (dg 0 m) (dg 1 m) (dg 2 m) (dg 3 m)

def Wide (z L : Int) (w : World) (e : Ending) (w' : World) : Prop := (∃ n m, e = .returned (wd n m) ∧ 0 ≤ m ∧ m ≤ L ∧ wz n m = z) ∧ Below w.heap.size w w'

theorem dg_small {m : Int} (h0 : 0 ≤ m) (h1 : m ≤ 18446744073709551615) : dg 0 m = m % 4294967296 ∧ dg 1 m = m / 4294967296 ∧ dg 2 m = 0 ∧ dg 3 m = 0 := by
  refine ⟨rfl, ?_, ?_, ?_⟩ <;> simp only [dg] <;> omega
theorem wd_small {n : Bool} {m : Int} (h0 : 0 ≤ m) (h1 : m ≤ 18446744073709551615) : Value.agg #[.bool n, .int .u64 (m % 4294967296), .int .u64 (m / 4294967296), .int .u64 0, .int .u64 0] = wd n m := by
  obtain ⟨e0, e1, e2, e3⟩ := dg_small h0 h1
  rw [wd, e0, e1, e2, e3]

theorem wide_ret {z L : Int} {w w' : World} {n : Bool} {m : Int} (h0 : 0 ≤ m) (h1 : m ≤ L) (h : wz n m = z) (hb : Below w.heap.size w w') : Wide z L w (.returned (wd n m)) w' := ⟨⟨n, m, rfl, h0, h1, h⟩, hb⟩
theorem bcell {W w1 : World} (hb : Below W.heap.size W w1) : (∀ b o, b < W.heap.size → w1.cell? ⟨b, o, none⟩ = W.cell? ⟨b, o, none⟩) ∧ (∀ b o, b < W.heap.size → w1.frozen? ⟨b, o, none⟩ = W.frozen? ⟨b, o, none⟩) :=
  ⟨fun b o h => hb.cell (p := ⟨b, o, none⟩) h, fun b o h => hb.frozen (p := ⟨b, o, none⟩) h⟩
theorem below3 {w w' : World} {a b c : Obj} (h : Below (((w.alloc a).alloc b).alloc c).heap.size (((w.alloc a).alloc b).alloc c) w') : Below w.heap.size w w' :=
  ((((Below.refl _ _).alloc (Nat.le_refl _) _).alloc (by simp) _).alloc (by simp; omega) _).trans (h.mono (by simp; omega))

theorem below_sub {N : Nat} {W w1 w2 : World} (h : ∀ b o, b < N → w1.cell? ⟨b, o, none⟩ = W.cell? ⟨b, o, none⟩) (hb : Below w1.heap.size w1 w2) (hN : N ≤ w1.heap.size) : ∀ b o, b < N → w2.cell? ⟨b, o, none⟩ = W.cell? ⟨b, o, none⟩ :=
  fun b o hbo => (hb.cell (p := ⟨b, o, none⟩) (Nat.lt_of_lt_of_le hbo hN)).trans (h b o hbo)
theorem cells5 {w1 w2 : World} {v0 v1 v2 v3 v4 : Value} {t g : Nat} (h : w1.heap[g]? = some (.cells #[v0, v1, v2, v3, v4] t (0, 0))) (hb : Below w1.heap.size w1 w2) :
    w2.cell? ⟨g, 0, none⟩ = some v0 ∧ w2.cell? ⟨g, 1, none⟩ = some v1 ∧ w2.cell? ⟨g, 2, none⟩ = some v2 ∧ w2.cell? ⟨g, 3, none⟩ = some v3 ∧ w2.cell? ⟨g, 4, none⟩ = some v4 ∧ ∀ i, w2.frozen? ⟨g, i, none⟩ = false := by
  have hg : g < w1.heap.size := by
    rcases Nat.lt_or_ge g w1.heap.size with h1 | h1
    · exact h1
    · rw [Array.getElem?_eq_none h1] at h; cases h
  have h2 := (hb.block g hg).trans h
  simp [World.cell?, World.frozen?, h2]

theorem heap3 (w : World) (a b c : Obj) : (((w.alloc a).alloc b).alloc c).drew.heap[w.heap.size + 1 + 1]? = some c := by
  show ((((w.heap.push a).push b).push c))[w.heap.size + 1 + 1]? = some c
  rw [show w.heap.size + 1 + 1 = ((w.heap.push a).push b).size by simp, Array.getElem?_push_size]
theorem drew_keep (N : Nat) (W : World) : ∀ b o, b < N → W.drew.cell? ⟨b, o, none⟩ = W.cell? ⟨b, o, none⟩ := fun _ _ _ => rfl
theorem set_keep {N : Nat} {W w1 : World} (h : ∀ b o, b < N → w1.cell? ⟨b, o, none⟩ = W.cell? ⟨b, o, none⟩) {p : Addr} (hp : N ≤ p.block) (u : Value) : ∀ b o, b < N → (w1.setCell p u).cell? ⟨b, o, none⟩ = W.cell? ⟨b, o, none⟩ :=
  fun b o hb => (World.cell?_setCell_other _ _ _ _ (by rintro rfl; exact absurd hb (Nat.not_lt.2 hp))).trans (h b o hb)
theorem set5_keep {N g : Nat} {W w1 : World} (h : ∀ b o, b < N → w1.cell? ⟨b, o, none⟩ = W.cell? ⟨b, o, none⟩) (hp : N ≤ g) (v0 v1 v2 v3 v4 : Value) :
    ∀ b o, b < N → (((((w1.setCell ⟨g, 0, none⟩ v0).setCell ⟨g, 1, none⟩ v1).setCell ⟨g, 2, none⟩ v2).setCell ⟨g, 3, none⟩ v3).setCell ⟨g, 4, none⟩ v4).cell? ⟨b, o, none⟩ = W.cell? ⟨b, o, none⟩ :=
  set_keep (set_keep (set_keep (set_keep (set_keep h (p := ⟨g, 0, none⟩) hp _) (p := ⟨g, 1, none⟩) hp _) (p := ⟨g, 2, none⟩) hp _) (p := ⟨g, 3, none⟩) hp _) (p := ⟨g, 4, none⟩) hp _

theorem wz_same {n1 n2 : Bool} {a b : Int} (h : (n1 == n2) = true) : wz n1 (a + b) = wz n1 a + wz n2 b := by
  have : n1 = n2 := by simpa using h
  subst this; cases n1 <;> simp [wz] <;> omega
theorem wz_other {n1 n2 : Bool} {a b : Int} (h : ¬ (n1 == n2) = true) : wz n2 (b - a) = wz n1 a + wz n2 b ∧ wz n1 (a - b) = wz n1 a + wz n2 b := by
  cases n1 <;> cases n2 <;> simp [wz] at * <;> omega
theorem wide_ret' {w w1 w2 : World} {z L : Int} {n : Bool} {m : Int} (hb : Below w.heap.size w w2) (h0 : 0 ≤ m) (h1 : m ≤ L) (h : wz n m = z) (v : Value) (hv : v = wd n m) : Wide z L w (.returned v) w2 := by
  subst hv; exact ⟨⟨n, m, rfl, h0, h1, h⟩, hb⟩

theorem keep_drew {N : Nat} {W w1 : World} (h : ∀ b o, b < N → w1.cell? ⟨b, o, none⟩ = W.cell? ⟨b, o, none⟩) : ∀ b o, b < N → w1.drew.cell? ⟨b, o, none⟩ = W.cell? ⟨b, o, none⟩ := h
theorem below3d {w w' : World} {a b c : Obj} (h : Below (((w.alloc a).alloc b).alloc c).drew.heap.size (((w.alloc a).alloc b).alloc c).drew w') : Below w.heap.size w w' :=
  below3 (a := a) (b := b) (c := c) ((Below.refl _ _).drew.trans h)
theorem below3t {w w1 w2 : World} {a b c : Obj} (h1 : Below (((w.alloc a).alloc b).alloc c).heap.size (((w.alloc a).alloc b).alloc c) w1) (h : Below w1.drew.heap.size w1.drew w2) : Below w.heap.size w w2 :=
  (below3 h1).trans (((Below.refl _ _).drew.trans h).mono (Nat.le_trans (by simp; omega) h1.size))

end Go.Proofs.Ytcoeooakimbkbaa
