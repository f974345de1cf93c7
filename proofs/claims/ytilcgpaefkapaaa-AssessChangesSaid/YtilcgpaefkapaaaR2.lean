/- the reference's wide numbers: Of, Add. -/
import Derived.Test.YtilcgpaefkapaaaR
import Derived.Deep.RegionHeld3
import Derived.Deep.RegionWith
namespace Go.Proofs.Ytilcgpaefkapaaa
open Go.RowKit Go
set_option linter.unusedSimpArgs false
set_option linter.unusedVariables false
set_option linter.unusedVariables false

/-- 2^128, behind a name. -/
def big : Int := 340282366920938463463374607431768211456
/-- The digit i of a size, base 2^32. -/
def dg : Nat → Int → Int
  | 0, m => m % 4294967296
  | 1, m => m / 4294967296 % 4294967296
  | 2, m => m / 18446744073709551616 % 4294967296
  | _, m => m / 79228162514264337593543950336 % 4294967296
theorem dg_bd (i : Nat) (m : Int) : 0 ≤ dg i m ∧ dg i m ≤ 4294967295 := by
  unfold dg; split <;> omega
@[reducible] def wd (n : Bool) (m : Int) : Value := .agg #[.bool n, .int .u64 (dg 0 m), .int .u64 (dg 1 m), .int .u64 (dg 2 m), .int .u64 (dg 3 m)]
def wz (n : Bool) (m : Int) : Int := if n then -m else m
theorem V_dg {m : Int} (h0 : 0 ≤ m) (h1 : m < big) : V (dg 0 m) (dg 1 m) (dg 2 m) (dg 3 m) = m := by
  unfold big at h1; simp only [V, dg]; omega
theorem dg_V {a0 a1 a2 a3 : Int} (h0 : 0 ≤ a0 ∧ a0 ≤ 4294967295) (h1 : 0 ≤ a1 ∧ a1 ≤ 4294967295) (h2 : 0 ≤ a2 ∧ a2 ≤ 4294967295) (h3 : 0 ≤ a3 ∧ a3 ≤ 4294967295) :
    dg 0 (V a0 a1 a2 a3) = a0 ∧ dg 1 (V a0 a1 a2 a3) = a1 ∧ dg 2 (V a0 a1 a2 a3) = a2 ∧ dg 3 (V a0 a1 a2 a3) = a3 := by
  simp only [V, dg]; omega

theorem d4_V {a0 a1 a2 a3 : Int} {m : Int} (h0 : 0 ≤ a0 ∧ a0 ≤ 4294967295) (h1 : 0 ≤ a1 ∧ a1 ≤ 4294967295) (h2 : 0 ≤ a2 ∧ a2 ≤ 4294967295) (h3 : 0 ≤ a3 ∧ a3 ≤ 4294967295) (h : m = V a0 a1 a2 a3) :
    d4 a0 a1 a2 a3 = d4 (dg 0 m) (dg 1 m) (dg 2 m) (dg 3 m) := by
  obtain ⟨e0, e1, e2, e3⟩ := dg_V h0 h1 h2 h3
  rw [h, e0, e1, e2, e3]

@[reducible] def dm (m : Int) : Value := d4 (dg 0 m) (dg 1 m) (dg 2 m) (dg 3 m)

theorem plusm (a b : Int) (w : World) (ha : 0 ≤ a) (hb : 0 ≤ b) (h : a + b < big) :
    Calls Try.prog 50 #[dm a, dm b] w fun e w' => e = .returned (dm (a + b)) ∧ Below w.heap.size w w' := by
  refine (plus_any (dg 0 a) (dg 1 a) (dg 2 a) (dg 3 a) (dg 0 b) (dg 1 b) (dg 2 b) (dg 3 b) w (dg_bd _ _) (dg_bd _ _) (dg_bd _ _) (dg_bd _ _) (dg_bd _ _) (dg_bd _ _) (dg_bd _ _) (dg_bd _ _)).mono ?_
  rintro e w' ⟨rfl, hw⟩
  refine ⟨?_, hw⟩
  have e := d4_V (m := a + b) (a0 := (dg 0 a + dg 0 b) % 4294967296) (a1 := (dg 1 a + dg 1 b + (dg 0 a + dg 0 b) / 4294967296) % 4294967296)
    (a2 := (dg 2 a + dg 2 b + (dg 1 a + dg 1 b + (dg 0 a + dg 0 b) / 4294967296) / 4294967296) % 4294967296) (a3 := (dg 3 a + dg 3 b + (dg 2 a + dg 2 b + (dg 1 a + dg 1 b + (dg 0 a + dg 0 b) / 4294967296) / 4294967296) / 4294967296) % 4294967296)
    (by omega) (by omega) (by omega) (by omega) (by
      have va := V_dg ha (by unfold big at *; omega); have vb := V_dg hb (by unfold big at *; omega)
      have a0 := dg_bd 0 a; have a1 := dg_bd 1 a; have a2 := dg_bd 2 a; have a3 := dg_bd 3 a
      have b0 := dg_bd 0 b; have b1 := dg_bd 1 b; have b2 := dg_bd 2 b; have b3 := dg_bd 3 b
      generalize dg 0 a = x0 at *; generalize dg 1 a = x1 at *; generalize dg 2 a = x2 at *; generalize dg 3 a = x3 at *
      generalize dg 0 b = y0 at *; generalize dg 1 b = y1 at *; generalize dg 2 b = y2 at *; generalize dg 3 b = y3 at *
      unfold big V at *; omega)
  rw [e]

theorem minusm (a b : Int) (w : World) (ha : a < big) (hb : 0 ≤ b) (h : b ≤ a) :
    Calls Try.prog 60 #[dm a, dm b] w fun e w' => e = .returned (dm (a - b)) ∧ Below w.heap.size w w' := by
  refine (minus_any (dg 0 a) (dg 1 a) (dg 2 a) (dg 3 a) (dg 0 b) (dg 1 b) (dg 2 b) (dg 3 b) w (dg_bd _ _) (dg_bd _ _) (dg_bd _ _) (dg_bd _ _) (dg_bd _ _) (dg_bd _ _) (dg_bd _ _) (dg_bd _ _)).mono ?_
  rintro e w' ⟨⟨s0, s1, s2, s3, h0, h1, h2, h3, rfl⟩, hw⟩
  refine ⟨?_, hw⟩
  have e := d4_V (m := a - b) (a0 := s0 % 4294967296) (a1 := s1 % 4294967296) (a2 := s2 % 4294967296) (a3 := s3 % 4294967296) (by omega) (by omega) (by omega) (by omega) (by
      have va := V_dg (by omega) ha; have vb := V_dg hb (by unfold big at *; omega)
      have a0 := dg_bd 0 a; have a1 := dg_bd 1 a; have a2 := dg_bd 2 a; have a3 := dg_bd 3 a
      have b0 := dg_bd 0 b; have b1 := dg_bd 1 b; have b2 := dg_bd 2 b; have b3 := dg_bd 3 b
      generalize dg 0 a = x0 at *; generalize dg 1 a = x1 at *; generalize dg 2 a = x2 at *; generalize dg 3 a = x3 at *
      generalize dg 0 b = y0 at *; generalize dg 1 b = y1 at *; generalize dg 2 b = y2 at *; generalize dg 3 b = y3 at *
      unfold big V at *; omega)
  rw [e]

theorem lessm (a b : Int) (w : World) (ha : 0 ≤ a) (hb : 0 ≤ b) (ha' : a < big) (hb' : b < big) :
    Calls Try.prog 51 #[dm a, dm b] w fun e w' => e = .returned (.bool (decide (a < b))) ∧ Below w.heap.size w w' := by
  refine (less_any (dg 0 a) (dg 1 a) (dg 2 a) (dg 3 a) (dg 0 b) (dg 1 b) (dg 2 b) (dg 3 b) w (dg_bd _ _) (dg_bd _ _) (dg_bd _ _) (dg_bd _ _) (dg_bd _ _) (dg_bd _ _) (dg_bd _ _) (dg_bd _ _)).mono ?_
  rintro e w' ⟨rfl, hw⟩
  rw [V_dg ha ha', V_dg hb hb']
  exact ⟨rfl, hw⟩

def Wide (z L : Int) (w : World) (e : Ending) (w' : World) : Prop := (∃ n m, e = .returned (wd n m) ∧ 0 ≤ m ∧ m ≤ L ∧ wz n m = z) ∧ Below w.heap.size w w'

theorem dg_small {m : Int} (h0 : 0 ≤ m) (h1 : m ≤ 18446744073709551615) : dg 0 m = m % 4294967296 ∧ dg 1 m = m / 4294967296 ∧ dg 2 m = 0 ∧ dg 3 m = 0 := by
  refine ⟨rfl, ?_, ?_, ?_⟩ <;> simp only [dg] <;> omega
theorem wd_small {n : Bool} {m : Int} (h0 : 0 ≤ m) (h1 : m ≤ 18446744073709551615) : Value.agg #[.bool n, .int .u64 (m % 4294967296), .int .u64 (m / 4294967296), .int .u64 0, .int .u64 0] = wd n m := by
  obtain ⟨e0, e1, e2, e3⟩ := dg_small h0 h1
  rw [wd, e0, e1, e2, e3]

theorem of_any (a : Int) (w : World) (ha : -9223372036854775808 ≤ a ∧ a ≤ 9223372036854775807) :
    Calls Try.prog 30 #[.int .i64 a] w fun e w' => e = .returned (wd (decide (a < 0)) a.natAbs) ∧ Below w.heap.size w w' := by
  by_cases h : a < 0
  all_goals
    go_enter Try.func30, Try.ntmps30
    go_wp2
  · refine bodyPost_ret (v := .agg #[.bool true, .int .u64 ((-(a + 1) + 1) % 4294967296), .int .u64 ((-(a + 1) + 1) / 4294967296), .int .u64 0, .int .u64 0]) (by simp [results, Try.results30, go_sem]) rfl ⟨?_, (by repeat' (first | (with_reducible exact Below.refl _ _) | (with_reducible refine Below.alloc ?_ ?_ _) | (with_reducible refine below_drewN ?_ _) | (with_reducible refine Below.drew ?_) | (with_reducible refine Below.setCell ?_ ?_ _) | (with_reducible refine Below.trans ?_ (Below.mono HW0.out ?_)) | (with_reducible refine Below.trans ?_ (Below.mono HW1.out ?_)) | (with_reducible refine Below.trans ?_ (Below.mono HW2.out ?_)) | (with_reducible refine Below.trans ?_ (Below.mono HW3.out ?_)) | (with_reducible refine Below.trans ?_ (Below.mono HW4.out ?_)) | (with_reducible refine Below.trans ?_ (Below.mono HW5.out ?_)) | (with_reducible refine Below.trans ?_ (Below.mono HW6.out ?_)) | (with_reducible refine Below.trans ?_ (Below.mono HW7.out ?_)) | (with_reducible exact Nat.le_refl _) | omega | (simp only [World.size_alloc, World.size_setCell, World.size_drew, size_drewN]; omega) | (simp; done) | (simp; omega)))⟩
    rw [wd_small (by omega) (by omega), decide_eq_true h, show (a.natAbs : Int) = -(a + 1) + 1 by omega]
  · refine bodyPost_ret (v := .agg #[.bool false, .int .u64 (a % 4294967296), .int .u64 (a / 4294967296), .int .u64 0, .int .u64 0]) (by simp [results, Try.results30, go_sem]) rfl ⟨?_, (by repeat' (first | (with_reducible exact Below.refl _ _) | (with_reducible refine Below.alloc ?_ ?_ _) | (with_reducible refine below_drewN ?_ _) | (with_reducible refine Below.drew ?_) | (with_reducible refine Below.setCell ?_ ?_ _) | (with_reducible refine Below.trans ?_ (Below.mono HW0.out ?_)) | (with_reducible refine Below.trans ?_ (Below.mono HW1.out ?_)) | (with_reducible refine Below.trans ?_ (Below.mono HW2.out ?_)) | (with_reducible refine Below.trans ?_ (Below.mono HW3.out ?_)) | (with_reducible refine Below.trans ?_ (Below.mono HW4.out ?_)) | (with_reducible refine Below.trans ?_ (Below.mono HW5.out ?_)) | (with_reducible refine Below.trans ?_ (Below.mono HW6.out ?_)) | (with_reducible refine Below.trans ?_ (Below.mono HW7.out ?_)) | (with_reducible exact Nat.le_refl _) | omega | (simp only [World.size_alloc, World.size_setCell, World.size_drew, size_drewN]; omega) | (simp; done) | (simp; omega)))⟩
    rw [wd_small (by omega) (by omega), decide_eq_false (by omega), show (a.natAbs : Int) = a by omega]

theorem wide_ret {z L : Int} {w w' : World} {n : Bool} {m : Int} (h0 : 0 ≤ m) (h1 : m ≤ L) (h : wz n m = z) (hb : Below w.heap.size w w') : Wide z L w (.returned (wd n m)) w' := ⟨⟨n, m, rfl, h0, h1, h⟩, hb⟩
theorem bcell {W w1 : World} (hb : Below W.heap.size W w1) : (∀ b o, b < W.heap.size → w1.cell? ⟨b, o, none⟩ = W.cell? ⟨b, o, none⟩) ∧ (∀ b o, b < W.heap.size → w1.frozen? ⟨b, o, none⟩ = W.frozen? ⟨b, o, none⟩) :=
  ⟨fun b o h => hb.cell (p := ⟨b, o, none⟩) h, fun b o h => hb.frozen (p := ⟨b, o, none⟩) h⟩
theorem below3 {w w' : World} {a b c : Obj} (h : Below (((w.alloc a).alloc b).alloc c).heap.size (((w.alloc a).alloc b).alloc c) w') : Below w.heap.size w w' :=
  ((((Below.refl _ _).alloc (Nat.le_refl _) _).alloc (by simp) _).alloc (by simp; omega) _).trans (h.mono (by simp; omega))

theorem below_sub {N : Nat} {W w1 w2 : World} (h : ∀ b o, b < N → w1.cell? ⟨b, o, none⟩ = W.cell? ⟨b, o, none⟩) (hb : Below w1.heap.size w1 w2) (hN : N ≤ w1.heap.size) : ∀ b o, b < N → w2.cell? ⟨b, o, none⟩ = W.cell? ⟨b, o, none⟩ :=
  fun b o hbo => (hb.cell (p := ⟨b, o, none⟩) (Nat.lt_of_lt_of_le hbo hN)).trans (h b o hbo)
theorem cells5 {w1 w2 : World} {v0 v1 v2 v3 v4 : Value} {t g : Nat} (h : w1.heap[g]? = some (.cells #[v0, v1, v2, v3, v4] t (0, 0))) (hb : Below w1.heap.size w1 w2) :
    w2.cell? ⟨g, 0, none⟩ = some v0 ∧ w2.cell? ⟨g, 1, none⟩ = some v1 ∧ w2.cell? ⟨g, 2, none⟩ = some v2 ∧ w2.cell? ⟨g, 3, none⟩ = some v3 ∧ w2.cell? ⟨g, 4, none⟩ = some v4 ∧ ∀ i, w2.frozen? ⟨g, i, none⟩ = false := by
  have hg : g < w1.heap.size := by
    rcases Nat.lt_or_ge g w1.heap.size with h1 | h1
    · exact h1
    · rw [Array.getElem?_eq_none h1] at h; cases h
  have h2 := (hb.block g hg).trans h
  simp [World.cell?, World.frozen?, h2]

theorem heap3 (w : World) (a b c : Obj) : (((w.alloc a).alloc b).alloc c).drew.heap[w.heap.size + 1 + 1]? = some c := by
  show ((((w.heap.push a).push b).push c))[w.heap.size + 1 + 1]? = some c
  rw [show w.heap.size + 1 + 1 = ((w.heap.push a).push b).size by simp, Array.getElem?_push_size]
theorem drew_keep (N : Nat) (W : World) : ∀ b o, b < N → W.drew.cell? ⟨b, o, none⟩ = W.cell? ⟨b, o, none⟩ := fun _ _ _ => rfl
theorem set_keep {N : Nat} {W w1 : World} (h : ∀ b o, b < N → w1.cell? ⟨b, o, none⟩ = W.cell? ⟨b, o, none⟩) {p : Addr} (hp : N ≤ p.block) (u : Value) : ∀ b o, b < N → (w1.setCell p u).cell? ⟨b, o, none⟩ = W.cell? ⟨b, o, none⟩ :=
  fun b o hb => (World.cell?_setCell_other _ _ _ _ (by rintro rfl; exact absurd hb (Nat.not_lt.2 hp))).trans (h b o hb)
theorem set5_keep {N g : Nat} {W w1 : World} (h : ∀ b o, b < N → w1.cell? ⟨b, o, none⟩ = W.cell? ⟨b, o, none⟩) (hp : N ≤ g) (v0 v1 v2 v3 v4 : Value) :
    ∀ b o, b < N → (((((w1.setCell ⟨g, 0, none⟩ v0).setCell ⟨g, 1, none⟩ v1).setCell ⟨g, 2, none⟩ v2).setCell ⟨g, 3, none⟩ v3).setCell ⟨g, 4, none⟩ v4).cell? ⟨b, o, none⟩ = W.cell? ⟨b, o, none⟩ :=
  set_keep (set_keep (set_keep (set_keep (set_keep h (p := ⟨g, 0, none⟩) hp _) (p := ⟨g, 1, none⟩) hp _) (p := ⟨g, 2, none⟩) hp _) (p := ⟨g, 3, none⟩) hp _) (p := ⟨g, 4, none⟩) hp _

theorem wz_same {n1 n2 : Bool} {a b : Int} (h : (n1 == n2) = true) : wz n1 (a + b) = wz n1 a + wz n2 b := by
  have : n1 = n2 := by simpa using h
  subst this; cases n1 <;> simp [wz] <;> omega
theorem wz_other {n1 n2 : Bool} {a b : Int} (h : ¬ (n1 == n2) = true) : wz n2 (b - a) = wz n1 a + wz n2 b ∧ wz n1 (a - b) = wz n1 a + wz n2 b := by
  cases n1 <;> cases n2 <;> simp [wz] at * <;> omega
theorem wide_ret' {w w1 w2 : World} {z L : Int} {n : Bool} {m : Int} (hb : Below w.heap.size w w2) (h0 : 0 ≤ m) (h1 : m ≤ L) (h : wz n m = z) (v : Value) (hv : v = wd n m) : Wide z L w (.returned v) w2 := by
  subst hv; exact ⟨⟨n, m, rfl, h0, h1, h⟩, hb⟩

theorem keep_drew {N : Nat} {W w1 : World} (h : ∀ b o, b < N → w1.cell? ⟨b, o, none⟩ = W.cell? ⟨b, o, none⟩) : ∀ b o, b < N → w1.drew.cell? ⟨b, o, none⟩ = W.cell? ⟨b, o, none⟩ := h
theorem below3d {w w' : World} {a b c : Obj} (h : Below (((w.alloc a).alloc b).alloc c).drew.heap.size (((w.alloc a).alloc b).alloc c).drew w') : Below w.heap.size w w' :=
  below3 (a := a) (b := b) (c := c) ((Below.refl _ _).drew.trans h)
theorem below3t {w w1 w2 : World} {a b c : Obj} (h1 : Below (((w.alloc a).alloc b).alloc c).heap.size (((w.alloc a).alloc b).alloc c) w1) (h : Below w1.drew.heap.size w1.drew w2) : Below w.heap.size w w2 :=
  (below3 h1).trans (((Below.refl _ _).drew.trans h).mono (Nat.le_trans (by simp; omega) h1.size))

set_option maxHeartbeats 800000 in
theorem wadd_any (n1 n2 : Bool) (a b : Int) (w : World) (ha : 0 ≤ a) (hb : 0 ≤ b) (h : a + b < big) :
    Calls Try.prog 49 #[wd n1 a, wd n2 b] w (Wide (wz n1 a + wz n2 b) (a + b) w) := by
  by_cases hn : (n1 == n2) = true
  · have HN := Lib.hid hn
    go_enter Try.func49, Try.ntmps49
    go_wp2
    have HS0 : ∀ b' o, b' < w.heap.size + 1 + 1 → (((w.alloc (.cells #[.bool n1, .int .u64 (dg 0 a), .int .u64 (dg 1 a), .int .u64 (dg 2 a), .int .u64 (dg 3 a)] 58)).alloc (.cells #[.bool n2, .int .u64 (dg 0 b), .int .u64 (dg 1 b), .int .u64 (dg 2 b), .int .u64 (dg 3 b)] 58)).alloc (.cells #[.bool false, .int .u64 0, .int .u64 0, .int .u64 0, .int .u64 0] 58)).cell? ⟨b', o, none⟩ = (((w.alloc (.cells #[.bool n1, .int .u64 (dg 0 a), .int .u64 (dg 1 a), .int .u64 (dg 2 a), .int .u64 (dg 3 a)] 58)).alloc (.cells #[.bool n2, .int .u64 (dg 0 b), .int .u64 (dg 1 b), .int .u64 (dg 2 b), .int .u64 (dg 3 b)] 58)).alloc (.cells #[.bool false, .int .u64 0, .int .u64 0, .int .u64 0, .int .u64 0] 58)).cell? ⟨b', o, none⟩ := fun _ _ _ => rfl
    have hsz : w.heap.size + 1 + 1 ≤ (((w.alloc (.cells #[.bool n1, .int .u64 (dg 0 a), .int .u64 (dg 1 a), .int .u64 (dg 2 a), .int .u64 (dg 3 a)] 58)).alloc (.cells #[.bool n2, .int .u64 (dg 0 b), .int .u64 (dg 1 b), .int .u64 (dg 2 b), .int .u64 (dg 3 b)] 58)).alloc (.cells #[.bool false, .int .u64 0, .int .u64 0, .int .u64 0, .int .u64 0] 58)).drew.heap.size := by simp
    have H3 := Lib.hid (heap3 w (.cells #[.bool n1, .int .u64 (dg 0 a), .int .u64 (dg 1 a), .int .u64 (dg 2 a), .int .u64 (dg 3 a)] 58) (.cells #[.bool n2, .int .u64 (dg 0 b), .int .u64 (dg 1 b), .int .u64 (dg 2 b), .int .u64 (dg 3 b)] 58) (.cells #[.bool false, .int .u64 0, .int .u64 0, .int .u64 0, .int .u64 0] 58))
    go_region_held3 (fun w' => ∀ b' o, b' < w.heap.size + 1 + 1 → w'.cell? ⟨b', o, none⟩ = (((w.alloc (.cells #[.bool n1, .int .u64 (dg 0 a), .int .u64 (dg 1 a), .int .u64 (dg 2 a), .int .u64 (dg 3 a)] 58)).alloc (.cells #[.bool n2, .int .u64 (dg 0 b), .int .u64 (dg 1 b), .int .u64 (dg 2 b), .int .u64 (dg 3 b)] 58)).alloc (.cells #[.bool false, .int .u64 0, .int .u64 0, .int .u64 0, .int .u64 0] 58)).cell? ⟨b', o, none⟩)
      ((first | (with_reducible exact keep_drew HS0) | (with_reducible exact HS) | (with_reducible refine set5_keep HS ?_ _ _ _ _ _; exact Nat.le_refl _)))
      ((go_at_call 50; refine (plusm a b _ ha hb h).mono ?_; rintro e w' ⟨rfl, hb1⟩; have HS := below_sub (by assumption) hb1 hsz; obtain ⟨c0, c1, c2, c3, c4, c5⟩ := cells5 H3.out hb1; have HB := Lib.hid hb1; clear hb1))
    go_wp2
    refine bodyPost_ret (v := wd n1 (a + b)) (by simp [results, Try.results49, go_sem, c0, c1, c2, c3, c4]) rfl ?_
    refine wide_ret (by omega) (by omega) (wz_same HN.out) ?_
    have hb1 := HB.out
    exact ((((((below3d hb1).setCell (by show w.heap.size ≤ w.heap.size + 1 + 1; omega) _).setCell (by show w.heap.size ≤ w.heap.size + 1 + 1; omega) _).setCell (by show w.heap.size ≤ w.heap.size + 1 + 1; omega) _).setCell (by show w.heap.size ≤ w.heap.size + 1 + 1; omega) _).setCell (by show w.heap.size ≤ w.heap.size + 1 + 1; omega) _)
  · have HN := Lib.hid hn
    rw [Bool.not_eq_true] at hn
    by_cases hl : a < b
    · go_enter Try.func49, Try.ntmps49
      go_wp2_with (go_at_call 51; refine (lessm a b _ ha hb (by omega) (by omega)).mono ?_; rintro e w1 ⟨rfl, hb0⟩; have HS0 := below_sub (N := w.heap.size + 1 + 1) (fun _ _ _ => rfl) hb0 (by simp); have hsz := Nat.le_trans (show w.heap.size + 1 + 1 + 1 ≤ _ by simp) hb0.size; have H3 := Lib.hid ((hb0.block (w.heap.size + 1 + 1) (by simp)).trans (heap3 _ _ _ _)); have HB0 := Lib.hid hb0; clear hb0)
      go_region_held3 (fun w' => ∀ b' o, b' < w.heap.size + 1 + 1 → w'.cell? ⟨b', o, none⟩ = (((w.alloc (.cells #[.bool n1, .int .u64 (dg 0 a), .int .u64 (dg 1 a), .int .u64 (dg 2 a), .int .u64 (dg 3 a)] 58)).alloc (.cells #[.bool n2, .int .u64 (dg 0 b), .int .u64 (dg 1 b), .int .u64 (dg 2 b), .int .u64 (dg 3 b)] 58)).alloc (.cells #[.bool false, .int .u64 0, .int .u64 0, .int .u64 0, .int .u64 0] 58)).cell? ⟨b', o, none⟩)
      ((first | (with_reducible exact keep_drew HS0) | (with_reducible exact HS) | (with_reducible refine set5_keep HS ?_ _ _ _ _ _; exact Nat.le_refl _)))
      ((go_at_call 60; refine (minusm b a _ (by omega) ha (by omega)).mono ?_; rintro e w' ⟨rfl, hb1⟩; have HS := below_sub (by assumption) hb1 (Nat.le_of_succ_le hsz); obtain ⟨c0, c1, c2, c3, c4, c5⟩ := cells5 (show w1.drew.heap[w.heap.size + 1 + 1]? = _ from H3.out) hb1; have HB := Lib.hid hb1; clear hb1))
      go_wp2
      refine bodyPost_ret (v := wd n2 (b - a)) (by simp [results, Try.results49, go_sem, c0, c1, c2, c3, c4]) rfl ?_
      refine wide_ret (by omega) (by omega) (wz_other HN.out).1 ?_
      have hb1 := HB.out
      exact ((((((below3t HB0.out hb1).setCell (by show w.heap.size ≤ w.heap.size + 1 + 1; omega) _).setCell (by show w.heap.size ≤ w.heap.size + 1 + 1; omega) _).setCell (by show w.heap.size ≤ w.heap.size + 1 + 1; omega) _).setCell (by show w.heap.size ≤ w.heap.size + 1 + 1; omega) _).setCell (by show w.heap.size ≤ w.heap.size + 1 + 1; omega) _)
    · go_enter Try.func49, Try.ntmps49
      go_wp2_with (go_at_call 51; refine (lessm a b _ ha hb (by omega) (by omega)).mono ?_; rintro e w1 ⟨rfl, hb0⟩; have HS0 := below_sub (N := w.heap.size + 1 + 1) (fun _ _ _ => rfl) hb0 (by simp); have hsz := Nat.le_trans (show w.heap.size + 1 + 1 + 1 ≤ _ by simp) hb0.size; have H3 := Lib.hid ((hb0.block (w.heap.size + 1 + 1) (by simp)).trans (heap3 _ _ _ _)); have HB0 := Lib.hid hb0; clear hb0)
      go_region_held3 (fun w' => ∀ b' o, b' < w.heap.size + 1 + 1 → w'.cell? ⟨b', o, none⟩ = (((w.alloc (.cells #[.bool n1, .int .u64 (dg 0 a), .int .u64 (dg 1 a), .int .u64 (dg 2 a), .int .u64 (dg 3 a)] 58)).alloc (.cells #[.bool n2, .int .u64 (dg 0 b), .int .u64 (dg 1 b), .int .u64 (dg 2 b), .int .u64 (dg 3 b)] 58)).alloc (.cells #[.bool false, .int .u64 0, .int .u64 0, .int .u64 0, .int .u64 0] 58)).cell? ⟨b', o, none⟩)
      ((first | (with_reducible exact keep_drew HS0) | (with_reducible exact HS) | (with_reducible refine set5_keep HS ?_ _ _ _ _ _; exact Nat.le_refl _)))
      ((go_at_call 60; refine (minusm a b _ (by omega) hb (by omega)).mono ?_; rintro e w' ⟨rfl, hb1⟩; have HS := below_sub (by assumption) hb1 (Nat.le_of_succ_le hsz); obtain ⟨c0, c1, c2, c3, c4, c5⟩ := cells5 (show w1.drew.heap[w.heap.size + 1 + 1]? = _ from H3.out) hb1; have HB := Lib.hid hb1; clear hb1))
      go_wp2
      refine bodyPost_ret (v := wd n1 (a - b)) (by simp [results, Try.results49, go_sem, c0, c1, c2, c3, c4]) rfl ?_
      refine wide_ret (by omega) (by omega) (wz_other HN.out).2 ?_
      have hb1 := HB.out
      exact ((((((below3t HB0.out hb1).setCell (by show w.heap.size ≤ w.heap.size + 1 + 1; omega) _).setCell (by show w.heap.size ≤ w.heap.size + 1 + 1; omega) _).setCell (by show w.heap.size ≤ w.heap.size + 1 + 1; omega) _).setCell (by show w.heap.size ≤ w.heap.size + 1 + 1; omega) _).setCell (by show w.heap.size ≤ w.heap.size + 1 + 1; omega) _)
end Go.Proofs.Ytilcgpaefkapaaa
