/- Laws. -/
import Derived.Test.YtbjjgnaojoaoiaaGreatZZ0
import Derived.Deep.RegionHeld3
namespace Go.Proofs.YtbjjgnaojoaoiaaGreat
open Go.RowKit Go
set_option linter.unusedVariables false
set_option linter.unusedSimpArgs false
set_option maxHeartbeats 1600000
set_option maxRecDepth 100000
def big : Int := 340282366920938463463374607431768211456
def dg : Nat → Int → Int
 | 0, m => m % 4294967296
 | 1, m => m / 4294967296 % 4294967296
 | 2, m => m / 18446744073709551616 % 4294967296
 | _, m => m / 79228162514264337593543950336 % 4294967296
theorem dg_bd (i : Nat) (m : Int) : 0 ≤ dg i m ∧ dg i m ≤ 4294967295 := by
 unfold dg; split <;> omega
@[reducible] def wd (n : Bool) (m : Int) : Value := .agg #[.bool n, .int .u64 (dg 0 m), .int .u64 (dg 1 m), .int .u64 (dg 2 m), .int .u64 (dg 3 m)]
def wz (n : Bool) (m : Int) : Int := if n then -m else m
theorem V_dg {m : Int} (h0 : 0 ≤ m) (h1 : m < big) : V (dg 0 m) (dg 1 m) (dg 2 m) (dg 3 m) = m := by
 unfold big at h1; simp only [V, dg]; omega
theorem dg_V {a0 a1 a2 a3 : Int} (h0 : 0 ≤ a0 ∧ a0 ≤ 4294967295) (h1 : 0 ≤ a1 ∧ a1 ≤ 4294967295) (h2 : 0 ≤ a2 ∧ a2 ≤ 4294967295) (h3 : 0 ≤ a3 ∧ a3 ≤ 4294967295) :
  dg 0 (V a0 a1 a2 a3) = a0 ∧ dg 1 (V a0 a1 a2 a3) = a1 ∧ dg 2 (V a0 a1 a2 a3) = a2 ∧ dg 3 (V a0 a1 a2 a3) = a3 := by
 simp only [V, dg]; omega
theorem d4_V {a0 a1 a2 a3 : Int} {m : Int} (h0 : 0 ≤ a0 ∧ a0 ≤ 4294967295) (h1 : 0 ≤ a1 ∧ a1 ≤ 4294967295) (h2 : 0 ≤ a2 ∧ a2 ≤ 4294967295) (h3 : 0 ≤ a3 ∧ a3 ≤ 4294967295) (h : m = V a0 a1 a2 a3) :
  d4 a0 a1 a2 a3 = d4 (dg 0 m) (dg 1 m) (dg 2 m) (dg 3 m) := by
 obtain ⟨e0, e1, e2, e3⟩ := dg_V h0 h1 h2 h3
 rw [h, e0, e1, e2, e3]
@[reducible] def dm (m : Int) : Value := d4 (dg 0 m) (dg 1 m) (dg 2 m) (dg 3 m)
theorem plusm (a b : Int) (w : World) (ha : 0 ≤ a) (hb : 0 ≤ b) (h : a + b < big) :
  Calls Tryz.prog 56 #[dm a, dm b] w fun e w' => e = .returned (dm (a + b)) ∧ Below w.heap.size w w' := by
 refine (plus_any (dg 0 a) (dg 1 a) (dg 2 a) (dg 3 a) (dg 0 b) (dg 1 b) (dg 2 b) (dg 3 b) w (dg_bd _ _) (dg_bd _ _) (dg_bd _ _) (dg_bd _ _) (dg_bd _ _) (dg_bd _ _) (dg_bd _ _) (dg_bd _ _)).mono ?_
 rintro e w' ⟨rfl, hw⟩
 refine ⟨?_, hw⟩
 have e := d4_V (m := a + b) (a0 := (dg 0 a + dg 0 b) % 4294967296) (a1 := (dg 1 a + dg 1 b + (dg 0 a + dg 0 b) / 4294967296) % 4294967296)
  (a2 := (dg 2 a + dg 2 b + (dg 1 a + dg 1 b + (dg 0 a + dg 0 b) / 4294967296) / 4294967296) % 4294967296) (a3 := (dg 3 a + dg 3 b + (dg 2 a + dg 2 b + (dg 1 a + dg 1 b + (dg 0 a + dg 0 b) / 4294967296) / 4294967296) / 4294967296) % 4294967296)
  (by omega) (by omega) (by omega) (by omega) (by
    have va := V_dg ha (by unfold big at *; omega); have vb := V_dg hb (by unfold big at *; omega)
    have a0 := dg_bd 0 a; have a1 := dg_bd 1 a; have a2 := dg_bd 2 a; have a3 := dg_bd 3 a
    have b0 := dg_bd 0 b; have b1 := dg_bd 1 b; have b2 := dg_bd 2 b; have b3 := dg_bd 3 b
    generalize dg 0 a = x0 at *; generalize dg 1 a = x1 at *; generalize dg 2 a = x2 at *; generalize dg 3 a = x3 at *
    generalize dg 0 b = y0 at *; generalize dg 1 b = y1 at *; generalize dg 2 b = y2 at *; generalize dg 3 b = y3 at *
    unfold big V at *; omega)
 rw [e]
theorem minusm (a b : Int) (w : World) (ha : a < big) (hb : 0 ≤ b) (h : b ≤ a) :
  Calls Tryz.prog 57 #[dm a, dm b] w fun e w' => e = .returned (dm (a - b)) ∧ Below w.heap.size w w' := by
 refine (minus_any (dg 0 a) (dg 1 a) (dg 2 a) (dg 3 a) (dg 0 b) (dg 1 b) (dg 2 b) (dg 3 b) w (dg_bd _ _) (dg_bd _ _) (dg_bd _ _) (dg_bd _ _) (dg_bd _ _) (dg_bd _ _) (dg_bd _ _) (dg_bd _ _)).mono ?_
 rintro e w' ⟨⟨s0, s1, s2, s3, h0, h1, h2, h3, rfl⟩, hw⟩
 refine ⟨?_, hw⟩
 have e := d4_V (m := a - b) (a0 := s0 % 4294967296) (a1 := s1 % 4294967296) (a2 := s2 % 4294967296) (a3 := s3 % 4294967296) (by omega) (by omega) (by omega) (by omega) (by
   have va := V_dg (by omega) ha; have vb := V_dg hb (by unfold big at *; omega)
   have a0 := dg_bd 0 a; have a1 := dg_bd 1 a; have a2 := dg_bd 2 a; have a3 := dg_bd 3 a
   have b0 := dg_bd 0 b; have b1 := dg_bd 1 b; have b2 := dg_bd 2 b; have b3 := dg_bd 3 b
   generalize dg 0 a = x0 at *; generalize dg 1 a = x1 at *; generalize dg 2 a = x2 at *; generalize dg 3 a = x3 at *
   generalize dg 0 b = y0 at *; generalize dg 1 b = y1 at *; generalize dg 2 b = y2 at *; generalize dg 3 b = y3 at *
   unfold big V at *; omega)
 rw [e]
theorem lessm (a b : Int) (w : World) (ha : 0 ≤ a) (hb : 0 ≤ b) (ha' : a < big) (hb' : b < big) :
  Calls Tryz.prog 53 #[dm a, dm b] w fun e w' => e = .returned (.bool (decide (a < b))) ∧ Below w.heap.size w w' := by
 refine (less_any (dg 0 a) (dg 1 a) (dg 2 a) (dg 3 a) (dg 0 b) (dg 1 b) (dg 2 b) (dg 3 b) w (dg_bd _ _) (dg_bd _ _) (dg_bd _ _) (dg_bd _ _) (dg_bd _ _) (dg_bd _ _) (dg_bd _ _) (dg_bd _ _)).mono ?_
 rintro e w' ⟨rfl, hw⟩
 rw [V_dg ha ha', V_dg hb hb']
 exact ⟨rfl, hw⟩
def Wide (z L : Int) (w : World) (e : Ending) (w' : World) : Prop := (∃ n m, e = .returned (wd n m) ∧ 0 ≤ m ∧ m ≤ L ∧ wz n m = z) ∧ Below w.heap.size w w'
theorem dg_small {m : Int} (h0 : 0 ≤ m) (h1 : m ≤ 18446744073709551615) : dg 0 m = m % 4294967296 ∧ dg 1 m = m / 4294967296 ∧ dg 2 m = 0 ∧ dg 3 m = 0 := by
 refine ⟨rfl, ?_, ?_, ?_⟩ <;> simp only [dg] <;> omega
theorem wd_small {n : Bool} {m : Int} (h0 : 0 ≤ m) (h1 : m ≤ 18446744073709551615) : Value.agg #[.bool n, .int .u64 (m % 4294967296), .int .u64 (m / 4294967296), .int .u64 0, .int .u64 0] = wd n m := by
 obtain ⟨e0, e1, e2, e3⟩ := dg_small h0 h1
 rw [wd, e0, e1, e2, e3]
theorem of_any (a : Int) (w : World) (ha : -9223372036854775808 ≤ a ∧ a ≤ 9223372036854775807) :
  Calls Tryz.prog 16 #[.int .i64 a] w fun e w' => e = .returned (wd (decide (a < 0)) a.natAbs) ∧ Below w.heap.size w w' := by
 by_cases h : a < 0
 all_goals
  go_enter Tryz.func16, Tryz.ntmps16
  go_wp2
 · refine bodyPost_ret (v := .agg #[.bool true, .int .u64 ((-(a + 1) + 1) % 4294967296), .int .u64 ((-(a + 1) + 1) / 4294967296), .int .u64 0, .int .u64 0]) (by simp [results, Tryz.results16, go_sem]) rfl ⟨?_, bly⟩
   rw [wd_small (by omega) (by omega), decide_eq_true h, show (a.natAbs : Int) = -(a + 1) + 1 by omega]
 · refine bodyPost_ret (v := .agg #[.bool false, .int .u64 (a % 4294967296), .int .u64 (a / 4294967296), .int .u64 0, .int .u64 0]) (by simp [results, Tryz.results16, go_sem]) rfl ⟨?_, bly⟩
   rw [wd_small (by omega) (by omega), decide_eq_false (by omega), show (a.natAbs : Int) = a by omega]
theorem wide_ret {z L : Int} {w w' : World} {n : Bool} {m : Int} (h0 : 0 ≤ m) (h1 : m ≤ L) (h : wz n m = z) (hb : Below w.heap.size w w') : Wide z L w (.returned (wd n m)) w' := ⟨⟨n, m, rfl, h0, h1, h⟩, hb⟩
theorem bcell {W w1 : World} (hb : Below W.heap.size W w1) : (∀ b o, b < W.heap.size → w1.cell? ⟨b, o, none⟩ = W.cell? ⟨b, o, none⟩) ∧ (∀ b o, b < W.heap.size → w1.frozen? ⟨b, o, none⟩ = W.frozen? ⟨b, o, none⟩) :=
 ⟨fun b o h => hb.cell (p := ⟨b, o, none⟩) h, fun b o h => hb.frozen (p := ⟨b, o, none⟩) h⟩
theorem below3 {w w' : World} {a b c : Obj} (h : Below (((w.alloc a).alloc b).alloc c).heap.size (((w.alloc a).alloc b).alloc c) w') : Below w.heap.size w w' :=
 ((((Below.refl _ _).alloc (Nat.le_refl _) _).alloc (by simp) _).alloc (by simp; omega) _).trans (h.mono (by simp; omega))
theorem below_sub {N : Nat} {W w1 w2 : World} (h : ∀ b o, b < N → w1.cell? ⟨b, o, none⟩ = W.cell? ⟨b, o, none⟩) (hb : Below w1.heap.size w1 w2) (hN : N ≤ w1.heap.size) : ∀ b o, b < N → w2.cell? ⟨b, o, none⟩ = W.cell? ⟨b, o, none⟩ :=
 fun b o hbo => (hb.cell (p := ⟨b, o, none⟩) (Nat.lt_of_lt_of_le hbo hN)).trans (h b o hbo)
theorem cells5 {w1 w2 : World} {v0 v1 v2 v3 v4 : Value} {t g : Nat} (h : w1.heap[g]? = some (.cells #[v0, v1, v2, v3, v4] t (0, 0))) (hb : Below w1.heap.size w1 w2) :
  w2.cell? ⟨g, 0, none⟩ = some v0 ∧ w2.cell? ⟨g, 1, none⟩ = some v1 ∧ w2.cell? ⟨g, 2, none⟩ = some v2 ∧ w2.cell? ⟨g, 3, none⟩ = some v3 ∧ w2.cell? ⟨g, 4, none⟩ = some v4 ∧ ∀ i, w2.frozen? ⟨g, i, none⟩ = false := by
 have hg : g < w1.heap.size := by
  rcases Nat.lt_or_ge g w1.heap.size with h1 | h1
  · exact h1
  · rw [Array.getElem?_eq_none h1] at h; cases h
 have h2 := (hb.block g hg).trans h
 simp [World.cell?, World.frozen?, h2]
theorem heap3 (w : World) (a b c : Obj) : (((w.alloc a).alloc b).alloc c).drew.heap[w.heap.size + 1 + 1]? = some c := by
 show ((((w.heap.push a).push b).push c))[w.heap.size + 1 + 1]? = some c
 rw [show w.heap.size + 1 + 1 = ((w.heap.push a).push b).size by simp, Array.getElem?_push_size]
theorem set_keep {N : Nat} {W w1 : World} (h : ∀ b o, b < N → w1.cell? ⟨b, o, none⟩ = W.cell? ⟨b, o, none⟩) {p : Addr} (hp : N ≤ p.block) (u : Value) : ∀ b o, b < N → (w1.setCell p u).cell? ⟨b, o, none⟩ = W.cell? ⟨b, o, none⟩ :=
 fun b o hb => (World.cell?_setCell_other _ _ _ _ (by rintro rfl; exact absurd hb (Nat.not_lt.2 hp))).trans (h b o hb)
theorem set5_keep {N g : Nat} {W w1 : World} (h : ∀ b o, b < N → w1.cell? ⟨b, o, none⟩ = W.cell? ⟨b, o, none⟩) (hp : N ≤ g) (v0 v1 v2 v3 v4 : Value) :
  ∀ b o, b < N → (((((w1.setCell ⟨g, 0, none⟩ v0).setCell ⟨g, 1, none⟩ v1).setCell ⟨g, 2, none⟩ v2).setCell ⟨g, 3, none⟩ v3).setCell ⟨g, 4, none⟩ v4).cell? ⟨b, o, none⟩ = W.cell? ⟨b, o, none⟩ :=
 set_keep (set_keep (set_keep (set_keep (set_keep h (p := ⟨g, 0, none⟩) hp _) (p := ⟨g, 1, none⟩) hp _) (p := ⟨g, 2, none⟩) hp _) (p := ⟨g, 3, none⟩) hp _) (p := ⟨g, 4, none⟩) hp _
theorem wz_same {n1 n2 : Bool} {a b : Int} (h : (n1 == n2) = true) : wz n1 (a + b) = wz n1 a + wz n2 b := by
 have : n1 = n2 := by simpa using h
 subst this; cases n1 <;> simp [wz] <;> omega
theorem wz_other {n1 n2 : Bool} {a b : Int} (h : ¬ (n1 == n2) = true) : wz n2 (b - a) = wz n1 a + wz n2 b ∧ wz n1 (a - b) = wz n1 a + wz n2 b := by
 cases n1 <;> cases n2 <;> simp [wz] at * <;> omega
theorem keep_drew {N : Nat} {W w1 : World} (h : ∀ b o, b < N → w1.cell? ⟨b, o, none⟩ = W.cell? ⟨b, o, none⟩) : ∀ b o, b < N → w1.drew.cell? ⟨b, o, none⟩ = W.cell? ⟨b, o, none⟩ := h
theorem below3d {w w' : World} {a b c : Obj} (h : Below (((w.alloc a).alloc b).alloc c).drew.heap.size (((w.alloc a).alloc b).alloc c).drew w') : Below w.heap.size w w' :=
 below3 (a := a) (b := b) (c := c) ((Below.refl _ _).drew.trans h)
theorem below3t {w w1 w2 : World} {a b c : Obj} (h1 : Below (((w.alloc a).alloc b).alloc c).heap.size (((w.alloc a).alloc b).alloc c) w1) (h : Below w1.drew.heap.size w1.drew w2) : Below w.heap.size w w2 :=
 (below3 h1).trans (((Below.refl _ _).drew.trans h).mono (Nat.le_trans (by simp; omega) h1.size))
theorem wadd_any (n1 n2 : Bool) (a b : Int) (w : World) (ha : 0 ≤ a) (hb : 0 ≤ b) (h : a + b < big) :
  Calls Tryz.prog 23 #[wd n1 a, wd n2 b] w (Wide (wz n1 a + wz n2 b) (a + b) w) := by
 by_cases hn : (n1 == n2) = true
 · have HN := hyd hn
   go_enter Tryz.func23, Tryz.ntmps23
   go_wp2
   have HS0 : ∀ b' o, b' < w.heap.size + 1 + 1 → (((w.alloc (.cells #[.bool n1, .int .u64 (dg 0 a), .int .u64 (dg 1 a), .int .u64 (dg 2 a), .int .u64 (dg 3 a)] 47)).alloc (.cells #[.bool n2, .int .u64 (dg 0 b), .int .u64 (dg 1 b), .int .u64 (dg 2 b), .int .u64 (dg 3 b)] 47)).alloc (.cells #[.bool false, .int .u64 0, .int .u64 0, .int .u64 0, .int .u64 0] 47)).cell? ⟨b', o, none⟩ = (((w.alloc (.cells #[.bool n1, .int .u64 (dg 0 a), .int .u64 (dg 1 a), .int .u64 (dg 2 a), .int .u64 (dg 3 a)] 47)).alloc (.cells #[.bool n2, .int .u64 (dg 0 b), .int .u64 (dg 1 b), .int .u64 (dg 2 b), .int .u64 (dg 3 b)] 47)).alloc (.cells #[.bool false, .int .u64 0, .int .u64 0, .int .u64 0, .int .u64 0] 47)).cell? ⟨b', o, none⟩ := fun _ _ _ => rfl
   have hsz : w.heap.size + 1 + 1 ≤ (((w.alloc (.cells #[.bool n1, .int .u64 (dg 0 a), .int .u64 (dg 1 a), .int .u64 (dg 2 a), .int .u64 (dg 3 a)] 47)).alloc (.cells #[.bool n2, .int .u64 (dg 0 b), .int .u64 (dg 1 b), .int .u64 (dg 2 b), .int .u64 (dg 3 b)] 47)).alloc (.cells #[.bool false, .int .u64 0, .int .u64 0, .int .u64 0, .int .u64 0] 47)).drew.heap.size := by simp
   have H3 := hyd (heap3 w (.cells #[.bool n1, .int .u64 (dg 0 a), .int .u64 (dg 1 a), .int .u64 (dg 2 a), .int .u64 (dg 3 a)] 47) (.cells #[.bool n2, .int .u64 (dg 0 b), .int .u64 (dg 1 b), .int .u64 (dg 2 b), .int .u64 (dg 3 b)] 47) (.cells #[.bool false, .int .u64 0, .int .u64 0, .int .u64 0, .int .u64 0] 47))
   go_region_held3 (fun w' => ∀ b' o, b' < w.heap.size + 1 + 1 → w'.cell? ⟨b', o, none⟩ = (((w.alloc (.cells #[.bool n1, .int .u64 (dg 0 a), .int .u64 (dg 1 a), .int .u64 (dg 2 a), .int .u64 (dg 3 a)] 47)).alloc (.cells #[.bool n2, .int .u64 (dg 0 b), .int .u64 (dg 1 b), .int .u64 (dg 2 b), .int .u64 (dg 3 b)] 47)).alloc (.cells #[.bool false, .int .u64 0, .int .u64 0, .int .u64 0, .int .u64 0] 47)).cell? ⟨b', o, none⟩)
    ((first | (with_reducible exact keep_drew HS0) | (with_reducible exact HS) | (with_reducible refine set5_keep HS ?_ _ _ _ _ _; exact Nat.le_refl _)))
    ((go_at_call 56; refine (plusm a b _ ha hb h).mono ?_; rintro e w' ⟨rfl, hb1⟩; have HS := below_sub (by assumption) hb1 hsz; obtain ⟨c0, c1, c2, c3, c4, c5⟩ := cells5 H3.out hb1; have HB := hyd hb1; clear hb1))
   go_wp2
   refine bodyPost_ret (v := wd n1 (a + b)) (by simp [results, Tryz.results23, go_sem, c0, c1, c2, c3, c4]) rfl ?_
   refine wide_ret (by omega) (by omega) (wz_same HN.out) ?_
   have hb1 := HB.out
   exact ((((((below3d hb1).setCell (by show w.heap.size ≤ w.heap.size + 1 + 1; omega) _).setCell (by show w.heap.size ≤ w.heap.size + 1 + 1; omega) _).setCell (by show w.heap.size ≤ w.heap.size + 1 + 1; omega) _).setCell (by show w.heap.size ≤ w.heap.size + 1 + 1; omega) _).setCell (by show w.heap.size ≤ w.heap.size + 1 + 1; omega) _)
 · have HN := hyd hn
   rw [Bool.not_eq_true] at hn
   by_cases hl : a < b
   · go_enter Tryz.func23, Tryz.ntmps23
     go_wp2_with (go_at_call 53; refine (lessm a b _ ha hb (by omega) (by omega)).mono ?_; rintro e w1 ⟨rfl, hb0⟩; have HS0 := below_sub (N := w.heap.size + 1 + 1) (fun _ _ _ => rfl) hb0 (by simp); have hsz := Nat.le_trans (show w.heap.size + 1 + 1 + 1 ≤ _ by simp) hb0.size; have H3 := hyd ((hb0.block (w.heap.size + 1 + 1) (by simp)).trans (heap3 _ _ _ _)); have HB0 := hyd hb0; clear hb0)
     go_region_held3 (fun w' => ∀ b' o, b' < w.heap.size + 1 + 1 → w'.cell? ⟨b', o, none⟩ = (((w.alloc (.cells #[.bool n1, .int .u64 (dg 0 a), .int .u64 (dg 1 a), .int .u64 (dg 2 a), .int .u64 (dg 3 a)] 47)).alloc (.cells #[.bool n2, .int .u64 (dg 0 b), .int .u64 (dg 1 b), .int .u64 (dg 2 b), .int .u64 (dg 3 b)] 47)).alloc (.cells #[.bool false, .int .u64 0, .int .u64 0, .int .u64 0, .int .u64 0] 47)).cell? ⟨b', o, none⟩)
     ((first | (with_reducible exact keep_drew HS0) | (with_reducible exact HS) | (with_reducible refine set5_keep HS ?_ _ _ _ _ _; exact Nat.le_refl _)))
     ((go_at_call 57; refine (minusm b a _ (by omega) ha (by omega)).mono ?_; rintro e w' ⟨rfl, hb1⟩; have HS := below_sub (by assumption) hb1 (Nat.le_of_succ_le hsz); obtain ⟨c0, c1, c2, c3, c4, c5⟩ := cells5 (show w1.drew.heap[w.heap.size + 1 + 1]? = _ from H3.out) hb1; have HB := hyd hb1; clear hb1))
     go_wp2
     refine bodyPost_ret (v := wd n2 (b - a)) (by simp [results, Tryz.results23, go_sem, c0, c1, c2, c3, c4]) rfl ?_
     refine wide_ret (by omega) (by omega) (wz_other HN.out).1 ?_
     have hb1 := HB.out
     exact ((((((below3t HB0.out hb1).setCell (by show w.heap.size ≤ w.heap.size + 1 + 1; omega) _).setCell (by show w.heap.size ≤ w.heap.size + 1 + 1; omega) _).setCell (by show w.heap.size ≤ w.heap.size + 1 + 1; omega) _).setCell (by show w.heap.size ≤ w.heap.size + 1 + 1; omega) _).setCell (by show w.heap.size ≤ w.heap.size + 1 + 1; omega) _)
   · go_enter Tryz.func23, Tryz.ntmps23
     go_wp2_with (go_at_call 53; refine (lessm a b _ ha hb (by omega) (by omega)).mono ?_; rintro e w1 ⟨rfl, hb0⟩; have HS0 := below_sub (N := w.heap.size + 1 + 1) (fun _ _ _ => rfl) hb0 (by simp); have hsz := Nat.le_trans (show w.heap.size + 1 + 1 + 1 ≤ _ by simp) hb0.size; have H3 := hyd ((hb0.block (w.heap.size + 1 + 1) (by simp)).trans (heap3 _ _ _ _)); have HB0 := hyd hb0; clear hb0)
     go_region_held3 (fun w' => ∀ b' o, b' < w.heap.size + 1 + 1 → w'.cell? ⟨b', o, none⟩ = (((w.alloc (.cells #[.bool n1, .int .u64 (dg 0 a), .int .u64 (dg 1 a), .int .u64 (dg 2 a), .int .u64 (dg 3 a)] 47)).alloc (.cells #[.bool n2, .int .u64 (dg 0 b), .int .u64 (dg 1 b), .int .u64 (dg 2 b), .int .u64 (dg 3 b)] 47)).alloc (.cells #[.bool false, .int .u64 0, .int .u64 0, .int .u64 0, .int .u64 0] 47)).cell? ⟨b', o, none⟩)
     ((first | (with_reducible exact keep_drew HS0) | (with_reducible exact HS) | (with_reducible refine set5_keep HS ?_ _ _ _ _ _; exact Nat.le_refl _)))
     ((go_at_call 57; refine (minusm a b _ (by omega) hb (by omega)).mono ?_; rintro e w' ⟨rfl, hb1⟩; have HS := below_sub (by assumption) hb1 (Nat.le_of_succ_le hsz); obtain ⟨c0, c1, c2, c3, c4, c5⟩ := cells5 (show w1.drew.heap[w.heap.size + 1 + 1]? = _ from H3.out) hb1; have HB := hyd hb1; clear hb1))
     go_wp2
     refine bodyPost_ret (v := wd n1 (a - b)) (by simp [results, Tryz.results23, go_sem, c0, c1, c2, c3, c4]) rfl ?_
     refine wide_ret (by omega) (by omega) (wz_other HN.out).2 ?_
     have hb1 := HB.out
     exact ((((((below3t HB0.out hb1).setCell (by show w.heap.size ≤ w.heap.size + 1 + 1; omega) _).setCell (by show w.heap.size ≤ w.heap.size + 1 + 1; omega) _).setCell (by show w.heap.size ≤ w.heap.size + 1 + 1; omega) _).setCell (by show w.heap.size ≤ w.heap.size + 1 + 1; omega) _).setCell (by show w.heap.size ≤ w.heap.size + 1 + 1; omega) _)
theorem of_most (w : World) : Calls Tryz.prog 16 #[.int .i64 4611686018427387904] w fun e w' => e = .returned (wd false 4611686018427387904) ∧ Below w.heap.size w w' := of_any 4611686018427387904 w (by omega)
theorem two_low {m : Int} (h0 : 0 ≤ m) (h1 : m ≤ 18446744073709551615) : dg 0 m + dg 1 m * 4294967296 = m := by
 obtain ⟨e0, e1, _, _⟩ := dg_small h0 h1
 rw [e0, e1]; omega
theorem amt_wz_yes {n : Bool} {m : Int} (h0 : 0 ≤ m) (h : m ≤ 4611686018427387904) : amt (wz n m) = true := by
 cases n <;> simp [amt, wz] <;> omega
theorem amt_wz_no {n : Bool} {m : Int} (h0 : 0 ≤ m) (h : 4611686018427387904 < m) : ¬ amt (wz n m) = true := by
 cases n <;> simp [amt, wz] <;> omega
theorem wtold_any (n : Bool) (m : Int) (w : World) (h0 : 0 ≤ m) (h1 : m < big) :
  Calls Tryz.prog 17 #[wd n m] w fun e w' => e = .returned (pr (told (wz n m))) ∧ Below w.heap.size w w' := by
 have hb1 : 4611686018427387904 < big := by unfold big; omega
 by_cases hm : 4611686018427387904 < m
 · go_enter Tryz.func17, Tryz.ntmps17
   go_wp2_with (first
    | (go_at_call 16; refine (of_most _).mono ?_; rintro e w1 ⟨rfl, hw1⟩; obtain ⟨hc1, hf1⟩ := bcell hw1; have hz1 := hw1.size; (try simp only [szA, szS, szD, size_drewN, Nat.add_one_le_iff] at hz1); (try have hy1 : w.heap.size < w1.heap.size := by omega); (try have hx1 : w.heap.size + 1 < w1.heap.size := by omega); have HW1 := hyd hw1; clear hw1)
    | (go_at_call 53; refine (lessm 4611686018427387904 m _ (by omega) h0 hb1 h1).mono ?_; rintro e w2 ⟨rfl, hw2⟩; obtain ⟨hc2, hf2⟩ := bcell hw2; have hz2 := hw2.size; (try simp only [szA, szS, szD, size_drewN, Nat.add_one_le_iff] at hz2); (try have hy2 : w.heap.size < w2.heap.size := by omega); (try have hx2 : w.heap.size + 1 < w2.heap.size := by omega); have HW2 := hyd hw2; clear hw2))
   go_ret2
   exact ⟨ret_pr (told_no (amt_wz_no h0 hm)), bly⟩
 · have hl := two_low h0 (show m ≤ 18446744073709551615 by omega)
   have hd0 := dg_bd 0 m; have hd1 := dg_bd 1 m
   have hb2 : dg 0 m + dg 1 m * 4294967296 ≤ 4611686018427387904 := by omega
   have HL := hyd hl; clear hl
   cases n
   all_goals
    go_enter Tryz.func17, Tryz.ntmps17
    go_wp2_with (first
     | (go_at_call 16; refine (of_most _).mono ?_; rintro e w1 ⟨rfl, hw1⟩; obtain ⟨hc1, hf1⟩ := bcell hw1; have hz1 := hw1.size; (try simp only [szA, szS, szD, size_drewN, Nat.add_one_le_iff] at hz1); (try have hy1 : w.heap.size < w1.heap.size := by omega); (try have hx1 : w.heap.size + 1 < w1.heap.size := by omega); have HW1 := hyd hw1; clear hw1)
     | (go_at_call 53; refine (lessm 4611686018427387904 m _ (by omega) h0 hb1 h1).mono ?_; rintro e w2 ⟨rfl, hw2⟩; obtain ⟨hc2, hf2⟩ := bcell hw2; have hz2 := hw2.size; (try simp only [szA, szS, szD, size_drewN, Nat.add_one_le_iff] at hz2); (try have hy2 : w.heap.size < w2.heap.size := by omega); (try have hx2 : w.heap.size + 1 < w2.heap.size := by omega); have HW2 := hyd hw2; clear hw2))
    go_ret2
   · exact ⟨ret_pr (by rw [HL.out]; exact told_yes (amt_wz_yes h0 (by omega))), bly⟩
   · exact ⟨ret_pr (by rw [HL.out]; exact told_yes (amt_wz_yes h0 (by omega))), bly⟩
theorem is_ref (a : Int) (w : World) : Calls Tryz.prog 211 #[.int .i64 a] w fun e w' => e = .returned (.bool (amt a)) ∧ w = w' := by
 by_cases h : amt a = true
 · have h1 := amt_yes h
   have H := hyd h; clear h
   go_enter Tryz.func211, Tryz.ntmps211
   go_wp2
   go_ret
   exact ⟨ret_bool H.out.symm, rfl⟩
 · have h1 := amt_no h
   have H := hyd h; clear h
   rcases h1 with h1 | h1
   all_goals
    go_enter Tryz.func211, Tryz.ntmps211
    go_wp2
    all_goals go_ret
    all_goals have e := Bool.eq_false_iff.2 H.out
    all_goals exact ⟨ret_bool (by first | (rw [e]; done) | (rw [e]; simp; omega)), rfl⟩
theorem both_any (a b : Int) (w : World) : Calls Tryz.prog 206 #[.int .i64 a, .int .i64 b] w fun e w' => e = .returned (.bool (amt a && amt b)) ∧ w = w' := by
 by_cases h : amt a = true
 · have H := hyd h
   go_enter Tryz.func206, Tryz.ntmps206
   go_wp2_with fail
   refine (is_ref a _).mono ?_; rintro e w' ⟨rfl, rfl⟩
   rw [h]; clear h
   go_wp2_with fail
   refine (is_ref b _).mono ?_; rintro e w' ⟨rfl, rfl⟩
   go_wp2_with fail
   go_ret
   exact ⟨ret_bool (by rw [H.out]; simp), rfl⟩
 · have H := hyd h
   go_enter Tryz.func206, Tryz.ntmps206
   go_wp2_with fail
   refine (is_ref a _).mono ?_; rintro e w' ⟨rfl, rfl⟩
   rw [Bool.eq_false_iff.2 h]; clear h
   go_wp2_with fail
   go_ret
   exact ⟨ret_bool (by rw [Bool.eq_false_iff.2 H.out]; rfl), rfl⟩
theorem Wide.pre {w0 w' : World} {z L : Int} {e : Ending} (h : Wide z L w0 e w') : ∃ n m, e = .returned (wd n m) ∧ 0 ≤ m ∧ m ≤ L ∧ Hid (wz n m = z) ∧ Below w0.heap.size w0 w' := by
 obtain ⟨⟨n, m, h1, h2, h3, h4⟩, h5⟩ := h
 exact ⟨n, m, h1, h2, h3, h4, h5⟩
theorem amt_abs {a : Int} (h : amt a = true) : (a.natAbs : Int) ≤ 4611686018427387904 := by have := amt_yes h; omega
theorem wz_of (a : Int) : wz (decide (a < 0)) a.natAbs = a := by
 by_cases h : a < 0 <;> simp [wz, h] <;> omega
theorem radd_any (a b : Int) (w : World) : Calls Tryz.prog 193 #[.int .i64 a, .int .i64 b] w fun e w' => e = .returned (pr (addS a b)) ∧ Below w.heap.size w w' := by
 by_cases h : (amt a && amt b) = true
 · have ha := amt_abs (a := a) (by simp at h; exact h.1)
   have hb := amt_abs (a := b) (by simp at h; exact h.2)
   have H := hyd h
   go_enter Tryz.func193, Tryz.ntmps193
   go_wp2_with fail
   refine (both_any a b _).mono ?_; rintro e w' ⟨rfl, rfl⟩
   rw [h]; clear h
   go_wp2_with fail
   refine (of_any a _ (by omega)).mono ?_; rintro e w1 ⟨rfl, hw1⟩; obtain ⟨hc1, hf1⟩ := bcell hw1; have hz1 := hw1.size; (try simp only [szA, szS, szD, size_drewN, Nat.add_one_le_iff] at hz1); (try have hy1 : w.heap.size < w1.heap.size := by omega); (try have hx1 : w.heap.size + 1 < w1.heap.size := by omega); have HW1 := hyd hw1; clear hw1
   go_wp2_with fail
   refine (of_any b _ (by omega)).mono ?_; rintro e w2 ⟨rfl, hw2⟩; obtain ⟨hc2, hf2⟩ := bcell hw2; have hz2 := hw2.size; (try simp only [szA, szS, szD, size_drewN, Nat.add_one_le_iff] at hz2); (try have hy2 : w.heap.size < w2.heap.size := by omega); (try have hx2 : w.heap.size + 1 < w2.heap.size := by omega); have HW2 := hyd hw2; clear hw2
   go_wp2_with fail
   refine (wadd_any _ _ _ _ _ (by omega) (by omega) (by unfold big; omega)).mono ?_
   intro e w3 h3; obtain ⟨n, m, rfl, hm0, hm1, hz, hw3⟩ := Wide.pre h3; clear h3; obtain ⟨hc3, hf3⟩ := bcell hw3; have hz3 := hw3.size; (try simp only [szA, szS, szD, size_drewN, Nat.add_one_le_iff] at hz3); (try have hy3 : w.heap.size < w3.heap.size := by omega); (try have hx3 : w.heap.size + 1 < w3.heap.size := by omega); have HW3 := hyd hw3; clear hw3
   go_wp2_with fail
   refine (wtold_any n m _ hm0 (by unfold big; omega)).mono ?_; rintro e w4 ⟨rfl, hw4⟩; obtain ⟨hc4, hf4⟩ := bcell hw4; have hz4 := hw4.size; (try simp only [szA, szS, szD, size_drewN, Nat.add_one_le_iff] at hz4); (try have hy4 : w.heap.size < w4.heap.size := by omega); (try have hx4 : w.heap.size + 1 < w4.heap.size := by omega); have HW4 := hyd hw4; clear hw4
   go_wp2_with fail
   go_ret2
   refine ⟨ret_pr ?_, bly⟩
   rw [hz.out, wz_of, wz_of, addS, if_pos H.out]
 · have H := hyd h
   go_enter Tryz.func193, Tryz.ntmps193
   go_wp2_with fail
   refine (both_any a b _).mono ?_; rintro e w' ⟨rfl, rfl⟩
   rw [Bool.eq_false_iff.2 h]; clear h
   go_wp2_with fail
   go_ret2
   exact ⟨ret_pr (add_no H.out), bly⟩
theorem blk5 {w1 : World} {v0 v1 v2 v3 v4 : Value} {t g : Nat} (h : w1.heap[g]? = some (.cells #[v0, v1, v2, v3, v4] t (0, 0))) :
  w1.cell? ⟨g, 0, none⟩ = some v0 ∧ w1.cell? ⟨g, 1, none⟩ = some v1 ∧ w1.cell? ⟨g, 2, none⟩ = some v2 ∧ w1.cell? ⟨g, 3, none⟩ = some v3 ∧ w1.cell? ⟨g, 4, none⟩ = some v4 ∧ ∀ i, w1.frozen? ⟨g, i, none⟩ = false := by
 simp [World.cell?, World.frozen?, h]
theorem set5_blk {w1 : World} {v0 v1 v2 v3 v4 : Value} {t g : Nat} (h : w1.heap[g]? = some (.cells #[v0, v1, v2, v3, v4] t (0, 0))) (u0 u1 u2 u3 u4 : Value) :
  (((((w1.setCell ⟨g, 0, none⟩ u0).setCell ⟨g, 1, none⟩ u1).setCell ⟨g, 2, none⟩ u2).setCell ⟨g, 3, none⟩ u3).setCell ⟨g, 4, none⟩ u4).heap[g]? = some (.cells #[u0, u1, u2, u3, u4] t (0, 0)) := by
 simp [World.setCell, Array.getElem?_modify, h]
theorem bit_low {x E F : Int} (hE : 0 < E) (hF : 0 < F) (h : E * F * 2 = 4294967296) : x % 4294967296 / E % 2 = x / E % 2 := by
 have e := Int.mul_ediv_add_emod x 4294967296
 have h1 : x % 4294967296 = x + E * (-(F * 2 * (x / 4294967296))) := by
  have : E * (F * 2 * (x / 4294967296)) = 4294967296 * (x / 4294967296) := by rw [← h, ← Int.mul_assoc, ← Int.mul_assoc]
  rw [Int.mul_neg]; omega
 rw [h1, Int.add_mul_ediv_left _ _ (by omega)]
 have : F * 2 * (x / 4294967296) = 2 * (F * (x / 4294967296)) := by rw [Int.mul_comm F 2, Int.mul_assoc]
 rw [this]; omega
theorem pow_parts {e : Nat} (he : e < 32) : (0 : Int) < 2 ^ e ∧ (0 : Int) < 2 ^ (31 - e) ∧ (2 : Int) ^ e * 2 ^ (31 - e) * 2 = 4294967296 := by
 refine ⟨Int.pow_pos (by omega), Int.pow_pos (by omega), ?_⟩
 rw [← Int.pow_add, show e + (31 - e) = 31 by omega]; rfl
def wt (d : Nat) : Int := 4294967296 ^ d
theorem wt_pow (d : Nat) : wt d = 2 ^ (32 * d) := by unfold wt; rw [Int.pow_mul]; rfl
theorem dg_wt (d : Nat) (hd : d ≤ 3) (m : Int) : dg d m = m / wt d % 4294967296 := by
 have : d = 0 ∨ d = 1 ∨ d = 2 ∨ d = 3 := by omega
 rcases this with rfl | rfl | rfl | rfl <;> simp [dg, wt]
theorem bit_dg {d e : Nat} (hd : d ≤ 3) (he : e < 32) (m : Int) : dg d m / 2 ^ e % 2 = m / 2 ^ (32 * d + e) % 2 := by
 obtain ⟨p1, p2, p3⟩ := pow_parts he
 rw [dg_wt d hd, bit_low p1 p2 p3, Int.pow_add, ← wt_pow, Int.ediv_ediv_of_nonneg (by unfold wt; exact Int.le_of_lt (Int.pow_pos (by omega)))]
theorem half_pow (m : Int) (i : Nat) (h0 : 0 ≤ m) : m / 2 ^ i = 2 * (m / 2 ^ (i + 1)) + m / 2 ^ i % 2 := by
 have : m / 2 ^ (i + 1) = m / 2 ^ i / 2 := by
  rw [Int.pow_succ, Int.ediv_ediv_of_nonneg (Int.le_of_lt (Int.pow_pos (by omega)))]
 rw [this]; omega
theorem div_step {c K R M b : Int} (hM : M = 2 * (K * c + R) + b) (hb : 0 ≤ b ∧ b ≤ 1) (hR : 0 ≤ R ∧ R < c) :
  (c ≤ 2 * R + b → M = (2 * K + 1) * c + (2 * R + b - c)) ∧ (2 * R + b < c → M = (2 * K) * c + (2 * R + b)) := by
 have e : (2 * K) * c = 2 * (K * c) := Int.mul_assoc _ _ _
 refine ⟨fun _ => ?_, fun _ => ?_⟩
 · rw [Int.add_mul, e, Int.one_mul]; omega
 · rw [e]; omega
theorem dg_room {d e : Nat} (hd : d ≤ 3) (he : e < 32) (K : Int) (hK : 0 ≤ K) : dg d (K * 2 ^ (32 * d + e + 1)) + 2 ^ e ≤ 4294967295 := by
 obtain ⟨p1, p2, p3⟩ := pow_parts he
 have hb := dg_bd d (K * 2 ^ (32 * d + e + 1))
 have e1 : K * 2 ^ (32 * d + e + 1) = (K * 2 ^ (e + 1)) * wt d := by
  rw [wt_pow, Int.mul_assoc, ← Int.pow_add]; congr 2; omega
 have hw : 0 < wt d := by unfold wt; exact Int.pow_pos (by omega)
 have e2 : dg d (K * 2 ^ (32 * d + e + 1)) = (K * 2 ^ (e + 1)) % 4294967296 := by rw [dg_wt d hd, e1, Int.mul_ediv_cancel _ (by omega)]
 have e3 : (K * 2 ^ (e + 1)) % 4294967296 = 2 ^ e * 2 * (K % 2 ^ (31 - e)) := by
  have : (4294967296 : Int) = 2 ^ e * 2 * 2 ^ (31 - e) := by rw [← p3, Int.mul_assoc, Int.mul_assoc, Int.mul_comm 2]
  rw [this, Int.mul_comm K, Int.pow_succ, Int.mul_emod_mul_of_pos _ _ (by omega)]
 rw [e2] at hb ⊢
 rw [e3] at hb ⊢
 generalize K % 2 ^ (31 - e) = z at *
 generalize (2 : Int) ^ (31 - e) = F at *
 generalize (2 : Int) ^ e = E at *
 have hzF : E * 2 * z < E * 2 * F := by
  have : E * 2 * F = 4294967296 := by rw [← p3, Int.mul_assoc, Int.mul_assoc, Int.mul_comm 2]
  omega
 have hz : z < F := Int.lt_of_mul_lt_mul_left hzF (by omega)
 have h2 : E * 2 * (z + 1) ≤ E * 2 * F := Int.mul_le_mul_of_nonneg_left (by omega) (by omega)
 have h3 : E * 2 * F = 4294967296 := by rw [← p3, Int.mul_assoc, Int.mul_assoc, Int.mul_comm 2]
 rw [Int.mul_add] at h2
 omega
theorem dg_add0 {Q P : Int} (h0 : 0 ≤ Q) (h1 : Q < big) (hP : 0 ≤ P) (h : dg 0 Q + P ≤ 4294967295) : dg 0 (Q + P * wt 0) = dg 0 Q + P ∧ dg 1 (Q + P * wt 0) = dg 1 Q ∧ dg 2 (Q + P * wt 0) = dg 2 Q ∧ dg 3 (Q + P * wt 0) = dg 3 Q := by
 have v := V_dg h0 h1
 have a0 := dg_bd 0 Q; have a1 := dg_bd 1 Q; have a2 := dg_bd 2 Q; have a3 := dg_bd 3 Q
 have := dg_V (a0 := dg 0 Q + P) (a1 := dg 1 Q) (a2 := dg 2 Q) (a3 := dg 3 Q) (by omega) a1 a2 a3
 have e : Q + P * wt 0 = V (dg 0 Q + P) (dg 1 Q) (dg 2 Q) (dg 3 Q) := by
  unfold wt V at *; rw [show (4294967296 : Int) ^ 0 = 1 by rfl]; omega
 rw [e]; exact this
theorem dg_add1 {Q P : Int} (h0 : 0 ≤ Q) (h1 : Q < big) (hP : 0 ≤ P) (h : dg 1 Q + P ≤ 4294967295) : dg 0 (Q + P * wt 1) = dg 0 Q ∧ dg 1 (Q + P * wt 1) = dg 1 Q + P ∧ dg 2 (Q + P * wt 1) = dg 2 Q ∧ dg 3 (Q + P * wt 1) = dg 3 Q := by
 have v := V_dg h0 h1
 have a0 := dg_bd 0 Q; have a1 := dg_bd 1 Q; have a2 := dg_bd 2 Q; have a3 := dg_bd 3 Q
 have := dg_V (a0 := dg 0 Q) (a1 := dg 1 Q + P) (a2 := dg 2 Q) (a3 := dg 3 Q) a0 (by omega) a2 a3
 have e : Q + P * wt 1 = V (dg 0 Q) (dg 1 Q + P) (dg 2 Q) (dg 3 Q) := by
  unfold wt V at *; rw [show (4294967296 : Int) ^ 1 = 4294967296 by rfl]; omega
 rw [e]; exact this
theorem dg_add2 {Q P : Int} (h0 : 0 ≤ Q) (h1 : Q < big) (hP : 0 ≤ P) (h : dg 2 Q + P ≤ 4294967295) : dg 0 (Q + P * wt 2) = dg 0 Q ∧ dg 1 (Q + P * wt 2) = dg 1 Q ∧ dg 2 (Q + P * wt 2) = dg 2 Q + P ∧ dg 3 (Q + P * wt 2) = dg 3 Q := by
 have v := V_dg h0 h1
 have a0 := dg_bd 0 Q; have a1 := dg_bd 1 Q; have a2 := dg_bd 2 Q; have a3 := dg_bd 3 Q
 have := dg_V (a0 := dg 0 Q) (a1 := dg 1 Q) (a2 := dg 2 Q + P) (a3 := dg 3 Q) a0 a1 (by omega) a3
 have e : Q + P * wt 2 = V (dg 0 Q) (dg 1 Q) (dg 2 Q + P) (dg 3 Q) := by
  unfold wt V at *; rw [show (4294967296 : Int) ^ 2 = 18446744073709551616 by rfl]; omega
 rw [e]; exact this
theorem dg_add3 {Q P : Int} (h0 : 0 ≤ Q) (h1 : Q < big) (hP : 0 ≤ P) (h : dg 3 Q + P ≤ 4294967295) : dg 0 (Q + P * wt 3) = dg 0 Q ∧ dg 1 (Q + P * wt 3) = dg 1 Q ∧ dg 2 (Q + P * wt 3) = dg 2 Q ∧ dg 3 (Q + P * wt 3) = dg 3 Q + P := by
 have v := V_dg h0 h1
 have a0 := dg_bd 0 Q; have a1 := dg_bd 1 Q; have a2 := dg_bd 2 Q; have a3 := dg_bd 3 Q
 have := dg_V (a0 := dg 0 Q) (a1 := dg 1 Q) (a2 := dg 2 Q) (a3 := dg 3 Q + P) a0 a1 a2 (by omega)
 have e : Q + P * wt 3 = V (dg 0 Q) (dg 1 Q) (dg 2 Q) (dg 3 Q + P) := by
  unfold wt V at *; rw [show (4294967296 : Int) ^ 3 = 79228162514264337593543950336 by rfl]; omega
 rw [e]; exact this
theorem plus_v (a0 a1 a2 a3 b0 b1 b2 b3 A B : Int) (w : World) (ha0 : 0 ≤ a0 ∧ a0 ≤ 4294967295) (ha1 : 0 ≤ a1 ∧ a1 ≤ 4294967295) (ha2 : 0 ≤ a2 ∧ a2 ≤ 4294967295) (ha3 : 0 ≤ a3 ∧ a3 ≤ 4294967295)
  (hb0 : 0 ≤ b0 ∧ b0 ≤ 4294967295) (hb1 : 0 ≤ b1 ∧ b1 ≤ 4294967295) (hb2 : 0 ≤ b2 ∧ b2 ≤ 4294967295) (hb3 : 0 ≤ b3 ∧ b3 ≤ 4294967295) (hA : V a0 a1 a2 a3 = A) (hB : V b0 b1 b2 b3 = B) (h : A + B < big) :
  Calls Tryz.prog 56 #[d4 a0 a1 a2 a3, d4 b0 b1 b2 b3] w fun e w' => e = .returned (dm (A + B)) ∧ Below w.heap.size w w' := by
 obtain ⟨e0, e1, e2, e3⟩ := dg_V ha0 ha1 ha2 ha3
 obtain ⟨f0, f1, f2, f3⟩ := dg_V hb0 hb1 hb2 hb3
 have hA0 : 0 ≤ A := by rw [← hA]; unfold V; omega
 have hB0 : 0 ≤ B := by rw [← hB]; unfold V; omega
 have := plusm A B w hA0 hB0 h
 rw [← hA, ← hB] at this ⊢
 unfold dm at this
 rw [e0, e1, e2, e3, f0, f1, f2, f3] at this
 exact this
def st (p q r s : Int) (n : Int) : Int := if n = 0 then 0 else if n = 1 then p else if n = 2 then p + q * 4294967296 else if n = 3 then p + q * 4294967296 + r * 4294967296 else p + q * 4294967296 + r * 4294967296 + s * 18446744073709551616
theorem st_all (a b : Int) (ha : 0 ≤ a ∧ a ≤ 18446744073709551615) (hb : 0 ≤ b ∧ b ≤ 18446744073709551615) : st (dg 0 a * dg 0 b) (dg 0 a * dg 1 b) (dg 1 a * dg 0 b) (dg 1 a * dg 1 b) 4 = a * b := by
 have e1 := two_low ha.1 ha.2
 have e2 := two_low hb.1 hb.2
 have h : (dg 0 a + dg 1 a * 4294967296) * (dg 0 b + dg 1 b * 4294967296) = dg 0 a * dg 0 b + dg 0 a * dg 1 b * 4294967296 + dg 1 a * dg 0 b * 4294967296 + dg 1 a * dg 1 b * 18446744073709551616 := by
  rw [Int.add_mul, Int.mul_add, Int.mul_add, ← Int.mul_assoc, show dg 1 a * 4294967296 * dg 0 b = dg 1 a * dg 0 b * 4294967296 by rw [Int.mul_assoc, Int.mul_comm 4294967296, ← Int.mul_assoc],
   show dg 1 a * 4294967296 * (dg 1 b * 4294967296) = dg 1 a * dg 1 b * 18446744073709551616 by rw [Int.mul_assoc, Int.mul_comm 4294967296, ← Int.mul_assoc, ← Int.mul_assoc, Int.mul_assoc (dg 1 a * dg 1 b)]; rfl]
  omega
 rw [e1, e2] at h
 rw [h]; simp [st]
theorem st_bd {p q r s n : Int} (hp : 0 ≤ p ∧ p ≤ 18446744065119617025) (hq : 0 ≤ q ∧ q ≤ 18446744065119617025) (hr : 0 ≤ r ∧ r ≤ 18446744065119617025) (hs : 0 ≤ s ∧ s ≤ 18446744065119617025) : 0 ≤ st p q r s n ∧ st p q r s n < big := by
 unfold st big; repeat' split
 all_goals omega
theorem mul_bd2 {q a : Int} (hq : 0 ≤ q ∧ q ≤ 4294967295) (ha : 0 ≤ a ∧ a ≤ 4294967295) : 0 ≤ q * a ∧ q * a ≤ 18446744065119617025 := by
 refine ⟨Int.mul_nonneg hq.1 ha.1, Int.le_trans (Int.mul_le_mul_of_nonneg_left ha.2 hq.1) ?_⟩
 omega
def MulAt (w : World) (n1 n2 : Bool) (a b : Int) (T D : Nat) (n : Int) (wr : World) : Prop :=
 wr.heap[w.heap.size]? = some (.cells #[.bool n1, .int .u64 (dg 0 a), .int .u64 (dg 1 a), .int .u64 (dg 2 a), .int .u64 (dg 3 a)] T (0, 0)) ∧
 wr.heap[w.heap.size + 1]? = some (.cells #[.bool n2, .int .u64 (dg 0 b), .int .u64 (dg 1 b), .int .u64 (dg 2 b), .int .u64 (dg 3 b)] T (0, 0)) ∧
 wr.heap[w.heap.size + 1 + 1]? = some (.cells #[.bool false, .int .u64 0, .int .u64 0, .int .u64 0, .int .u64 0] T (0, 0)) ∧
 (∃ s, s = st (dg 0 a * dg 0 b) (dg 0 a * dg 1 b) (dg 1 a * dg 0 b) (dg 1 a * dg 1 b) n ∧ wr.heap[w.heap.size + 1 + 1 + 1]? = some (.cells #[.int .u64 (dg 0 s), .int .u64 (dg 1 s), .int .u64 (dg 2 s), .int .u64 (dg 3 s)] D (0, 0))) ∧
 Below w.heap.size w wr ∧ w.heap.size + 1 + 1 + 1 < wr.heap.size
theorem mul_start (w : World) (n1 n2 : Bool) (a b : Int) (T D : Nat) : MulAt w n1 n2 a b T D 0
  ((((w.alloc (.cells #[.bool n1, .int .u64 (dg 0 a), .int .u64 (dg 1 a), .int .u64 (dg 2 a), .int .u64 (dg 3 a)] T)).alloc (.cells #[.bool n2, .int .u64 (dg 0 b), .int .u64 (dg 1 b), .int .u64 (dg 2 b), .int .u64 (dg 3 b)] T)).alloc (.cells #[.bool false, .int .u64 0, .int .u64 0, .int .u64 0, .int .u64 0] T)).alloc (.cells #[.int .u64 0, .int .u64 0, .int .u64 0, .int .u64 0] D)) := by
 have e0 : dg 0 0 = 0 ∧ dg 1 0 = 0 ∧ dg 2 0 = 0 ∧ dg 3 0 = 0 := by decide
 refine ⟨?_, ?_, ?_, ⟨0, rfl, ?_⟩, bly, by simp⟩
 · exact blk_alloc (blk_alloc (blk_alloc (blk_new w _ rfl) _) _) _
 · exact blk_alloc (blk_alloc (blk_new _ _ (by simp)) _) _
 · exact blk_alloc (blk_new _ _ (by simp)) _
 · rw [e0.1, e0.2.1, e0.2.2.1, e0.2.2.2]; exact blk_new _ _ (by simp)
theorem cells4 {w1 : World} {v0 v1 v2 v3 : Value} {t g : Nat} (h : w1.heap[g]? = some (.cells #[v0, v1, v2, v3] t (0, 0))) :
  w1.cell? ⟨g, 0, none⟩ = some v0 ∧ w1.cell? ⟨g, 1, none⟩ = some v1 ∧ w1.cell? ⟨g, 2, none⟩ = some v2 ∧ w1.cell? ⟨g, 3, none⟩ = some v3 ∧ ∀ i, w1.frozen? ⟨g, i, none⟩ = false := by
 simp [World.cell?, World.frozen?, h]
theorem set4_blk {w1 : World} {v0 v1 v2 v3 : Value} {t g : Nat} (h : w1.heap[g]? = some (.cells #[v0, v1, v2, v3] t (0, 0))) (u0 u1 u2 u3 : Value) :
  ((((w1.setCell ⟨g, 0, none⟩ u0).setCell ⟨g, 1, none⟩ u1).setCell ⟨g, 2, none⟩ u2).setCell ⟨g, 3, none⟩ u3).heap[g]? = some (.cells #[u0, u1, u2, u3] t (0, 0)) := by
 simp [World.setCell, Array.getElem?_modify, h]
theorem mfar {w : World} {g g' : Nat} {o : Obj} (h : w.heap[g]? = some o) (hp : g ≠ g') (u0 u1 u2 u3 : Value) : ((((w.setCell ⟨g', 0, none⟩ u0).setCell ⟨g', 1, none⟩ u1).setCell ⟨g', 2, none⟩ u2).setCell ⟨g', 3, none⟩ u3).heap[g]? = some o :=
 blk_far (p := ⟨g', 3, none⟩) (blk_far (p := ⟨g', 2, none⟩) (blk_far (p := ⟨g', 1, none⟩) (blk_far (p := ⟨g', 0, none⟩) h hp _) hp _) hp _) hp _
theorem mbelow {w w1 : World} {B g' : Nat} (h : Below B w w1) (hp : B ≤ g') (u0 u1 u2 u3 : Value) : Below B w ((((w1.setCell ⟨g', 0, none⟩ u0).setCell ⟨g', 1, none⟩ u1).setCell ⟨g', 2, none⟩ u2).setCell ⟨g', 3, none⟩ u3) :=
 (((h.setCell (p := ⟨g', 0, none⟩) hp _).setCell (p := ⟨g', 1, none⟩) hp _).setCell (p := ⟨g', 2, none⟩) hp _).setCell (p := ⟨g', 3, none⟩) hp _
theorem wmul_any (n1 n2 : Bool) (a b : Int) (w : World) (ha : 0 ≤ a ∧ a ≤ 18446744073709551615) (hb : 0 ≤ b ∧ b ≤ 18446744073709551615) :
  Calls Tryz.prog 158 #[wd n1 a, wd n2 b] w fun e w' => e = .returned (wd (n1 != n2) (a * b)) ∧ Below w.heap.size w w' := by
 have a0 := dg_bd 0 a; have a1 := dg_bd 1 a; have b0 := dg_bd 0 b; have b1 := dg_bd 1 b
 have p00 := mul_bd2 a0 b0; have p01 := mul_bd2 a0 b1; have p10 := mul_bd2 a1 b0; have p11 := mul_bd2 a1 b1
 have hall := hyd (st_all a b ha hb)
 go_enter Tryz.func158, Tryz.ntmps158
 go_wp2_with fail
 go_loopw [6] (fun i wr => ∃ I : Int, (I = 0 ∨ I = 1 ∨ I = 2) ∧ i = .int .i64 I ∧ MulAt w n1 n2 a b 47 45 (2 * I) wr) (fun i _ => (2 - intOf i).toNat)
 case atStart => exact ⟨0, by omega, rfl, mul_start w n1 n2 a b _ _⟩
 case round =>
  obtain ⟨I, hI, rfl, hM⟩ := hrel
  have HM := hyd hM; clear hM
  rcases hI with rfl | rfl | rfl
  · go_wp2_with fail
    obtain ⟨wo, rfl⟩ : ∃ wo : World, wo = wr := ⟨_, rfl⟩
    go_loopw [7, 8, 9] (fun k _ _ wr => ∃ K : Int, (K = 0 ∨ K = 1 ∨ K = 2) ∧ k = .int .i64 K ∧ MulAt w n1 n2 a b 47 45 (2 * 0 + K) wr) (fun k _ _ _ => (2 - intOf k).toNat)
    case atStart => exact ⟨0, by omega, rfl, HM.out⟩
    case round =>
     obtain ⟨K, hK, rfl, hM⟩ := hrel
     clear HM
     have HM := hyd hM; clear hM
     rcases hK with rfl | rfl | rfl
     · have hM : MulAt w n1 n2 a b 47 45 0 wr := HM.out
       obtain ⟨h0, h1, h2, ⟨s, hs, h3⟩, hbw, hsz⟩ := hM
       have HS : Hid (s = st (dg 0 a * dg 0 b) (dg 0 a * dg 1 b) (dg 1 a * dg 0 b) (dg 1 a * dg 1 b) 0) := hs
       clear hs
       obtain ⟨c0, c1, c2, c3, c4, c5⟩ := blk5 h0
       obtain ⟨d0, d1, d2, d3, d4, d5⟩ := blk5 h1
       have H0 := hyd h0; have H1 := hyd h1; have H2 := hyd h2; have H3 := hyd h3; have HB := hyd hbw
       clear h0 h1 h2 h3 hbw c5 d5
       have hsb := st_bd (n := 0) p00 p01 p10 p11
       rw [← HS.out] at hsb
       have hnb := st_bd (n := 1) p00 p01 p10 p11
       have hst : st (dg 0 a * dg 0 b) (dg 0 a * dg 1 b) (dg 1 a * dg 0 b) (dg 1 a * dg 1 b) 1 = s + V (dg 0 a * dg 0 b % 4294967296) (dg 0 a * dg 0 b / 4294967296) 0 0 := by
        rw [HS.out]; unfold st V; simp; try omega
       have HST := hyd hst; clear hst
       have HNB := hyd hnb; clear hnb
       go_wp2_with fail
       go_quiet (fail)
       have K0 := hyd (show (wr.drewN nq).heap[_]? = _ from H0.out); have K1 := hyd (show (wr.drewN nq).heap[_]? = _ from H1.out); have K2 := hyd (show (wr.drewN nq).heap[_]? = _ from H2.out); have K3 := hyd (show (wr.drewN nq).heap[_]? = _ from H3.out)
       have KB := hyd (below_drewN HB.out nq)
       have hsx : w.heap.size + 1 + 1 + 1 < (wr.drewN nq).heap.size := hsz
       clear H0 H1 H2 H3 HB hsz c0 c1 c2 c3 c4 d0 d1 d2 d3 d4 HM
       generalize wr.drewN nq = wx at *
       have hx0 : w.heap.size < wx.heap.size := by omega
       have hx1 : w.heap.size + 1 < wx.heap.size := by omega
       have hx2 : w.heap.size + 1 + 1 < wx.heap.size := by omega
       obtain ⟨e0, e1, e2, e3, e4⟩ := cells4 K3.out
       go_wp2_with (go_at_call 56; refine (plus_v (dg 0 s) (dg 1 s) (dg 2 s) (dg 3 s) (dg 0 a * dg 0 b % 4294967296) (dg 0 a * dg 0 b / 4294967296) 0 0 s (V (dg 0 a * dg 0 b % 4294967296) (dg 0 a * dg 0 b / 4294967296) 0 0) _ (dg_bd _ _) (dg_bd _ _) (dg_bd _ _) (dg_bd _ _) (by omega) (by omega) (by omega) (by omega) (V_dg hsb.1 hsb.2) rfl (by rw [← HST.out]; exact HNB.out.2)).mono ?_; rintro e w1 ⟨rfl, hw1⟩; rw [← HST.out]; have hbx : Below wx.heap.size wx w1 := Below.trans bly (hw1.mono (by simp only [World.size_alloc, World.size_setCell]; omega)); clear hw1; clear e0 e1 e2 e3 e4; have g3 := blk_below K3.out hbx hsx; obtain ⟨e0, e1, e2, e3, e4⟩ := cells4 g3; have G0 := hyd (blk_below K0.out hbx hx0); have G1 := hyd (blk_below K1.out hbx hx1); have G2 := hyd (blk_below K2.out hbx hx2); have G3 := hyd g3; have GB := hyd (KB.out.trans (hbx.mono (by omega))); have hsy := Nat.lt_of_lt_of_le hsx hbx.size; clear g3 hbx)
       refine ⟨⟨1, by omega, by go_num, ?_⟩, by first | (simp [intOf]; done) | (simp [intOf]; omega)⟩
       exact ⟨mfar G0.out (by omega) _ _ _ _, mfar G1.out (by omega) _ _ _ _, mfar G2.out (by omega) _ _ _ _, ⟨_, rfl, set4_blk G3.out _ _ _ _⟩, mbelow GB.out (by omega) _ _ _ _, by simp only [World.size_setCell]; exact hsy⟩
     · have hM : MulAt w n1 n2 a b 47 45 1 wr := HM.out
       obtain ⟨h0, h1, h2, ⟨s, hs, h3⟩, hbw, hsz⟩ := hM
       have HS : Hid (s = st (dg 0 a * dg 0 b) (dg 0 a * dg 1 b) (dg 1 a * dg 0 b) (dg 1 a * dg 1 b) 1) := hs
       clear hs
       obtain ⟨c0, c1, c2, c3, c4, c5⟩ := blk5 h0
       obtain ⟨d0, d1, d2, d3, d4, d5⟩ := blk5 h1
       have H0 := hyd h0; have H1 := hyd h1; have H2 := hyd h2; have H3 := hyd h3; have HB := hyd hbw
       clear h0 h1 h2 h3 hbw c5 d5
       have hsb := st_bd (n := 1) p00 p01 p10 p11
       rw [← HS.out] at hsb
       have hnb := st_bd (n := 2) p00 p01 p10 p11
       have hst : st (dg 0 a * dg 0 b) (dg 0 a * dg 1 b) (dg 1 a * dg 0 b) (dg 1 a * dg 1 b) 2 = s + V 0 (dg 0 a * dg 1 b % 4294967296) (dg 0 a * dg 1 b / 4294967296) 0 := by
        rw [HS.out]; unfold st V; simp; try omega
       have HST := hyd hst; clear hst
       have HNB := hyd hnb; clear hnb
       go_wp2_with fail
       go_quiet (fail)
       have K0 := hyd (show (wr.drewN nq).heap[_]? = _ from H0.out); have K1 := hyd (show (wr.drewN nq).heap[_]? = _ from H1.out); have K2 := hyd (show (wr.drewN nq).heap[_]? = _ from H2.out); have K3 := hyd (show (wr.drewN nq).heap[_]? = _ from H3.out)
       have KB := hyd (below_drewN HB.out nq)
       have hsx : w.heap.size + 1 + 1 + 1 < (wr.drewN nq).heap.size := hsz
       clear H0 H1 H2 H3 HB hsz c0 c1 c2 c3 c4 d0 d1 d2 d3 d4 HM
       generalize wr.drewN nq = wx at *
       have hx0 : w.heap.size < wx.heap.size := by omega
       have hx1 : w.heap.size + 1 < wx.heap.size := by omega
       have hx2 : w.heap.size + 1 + 1 < wx.heap.size := by omega
       obtain ⟨e0, e1, e2, e3, e4⟩ := cells4 K3.out
       go_wp2_with (go_at_call 56; refine (plus_v (dg 0 s) (dg 1 s) (dg 2 s) (dg 3 s) 0 (dg 0 a * dg 1 b % 4294967296) (dg 0 a * dg 1 b / 4294967296) 0 s (V 0 (dg 0 a * dg 1 b % 4294967296) (dg 0 a * dg 1 b / 4294967296) 0) _ (dg_bd _ _) (dg_bd _ _) (dg_bd _ _) (dg_bd _ _) (by omega) (by omega) (by omega) (by omega) (V_dg hsb.1 hsb.2) rfl (by rw [← HST.out]; exact HNB.out.2)).mono ?_; rintro e w1 ⟨rfl, hw1⟩; rw [← HST.out]; have hbx : Below wx.heap.size wx w1 := Below.trans bly (hw1.mono (by simp only [World.size_alloc, World.size_setCell]; omega)); clear hw1; clear e0 e1 e2 e3 e4; have g3 := blk_below K3.out hbx hsx; obtain ⟨e0, e1, e2, e3, e4⟩ := cells4 g3; have G0 := hyd (blk_below K0.out hbx hx0); have G1 := hyd (blk_below K1.out hbx hx1); have G2 := hyd (blk_below K2.out hbx hx2); have G3 := hyd g3; have GB := hyd (KB.out.trans (hbx.mono (by omega))); have hsy := Nat.lt_of_lt_of_le hsx hbx.size; clear g3 hbx)
       refine ⟨⟨2, by omega, by go_num, ?_⟩, by first | (simp [intOf]; done) | (simp [intOf]; omega)⟩
       exact ⟨mfar G0.out (by omega) _ _ _ _, mfar G1.out (by omega) _ _ _ _, mfar G2.out (by omega) _ _ _ _, ⟨_, rfl, set4_blk G3.out _ _ _ _⟩, mbelow GB.out (by omega) _ _ _ _, by simp only [World.size_setCell]; exact hsy⟩
     · go_wp2_with fail
       refine ⟨⟨1, by omega, by go_num, HM.out⟩, by first | (simp [intOf]; done) | (simp [intOf]; omega)⟩
  · go_wp2_with fail
    obtain ⟨wo, rfl⟩ : ∃ wo : World, wo = wr := ⟨_, rfl⟩
    go_loopw [7, 8, 9] (fun k _ _ wr => ∃ K : Int, (K = 0 ∨ K = 1 ∨ K = 2) ∧ k = .int .i64 K ∧ MulAt w n1 n2 a b 47 45 (2 * 1 + K) wr) (fun k _ _ _ => (2 - intOf k).toNat)
    case atStart => exact ⟨0, by omega, rfl, HM.out⟩
    case round =>
     obtain ⟨K, hK, rfl, hM⟩ := hrel
     clear HM
     have HM := hyd hM; clear hM
     rcases hK with rfl | rfl | rfl
     · have hM : MulAt w n1 n2 a b 47 45 2 wr := HM.out
       obtain ⟨h0, h1, h2, ⟨s, hs, h3⟩, hbw, hsz⟩ := hM
       have HS : Hid (s = st (dg 0 a * dg 0 b) (dg 0 a * dg 1 b) (dg 1 a * dg 0 b) (dg 1 a * dg 1 b) 2) := hs
       clear hs
       obtain ⟨c0, c1, c2, c3, c4, c5⟩ := blk5 h0
       obtain ⟨d0, d1, d2, d3, d4, d5⟩ := blk5 h1
       have H0 := hyd h0; have H1 := hyd h1; have H2 := hyd h2; have H3 := hyd h3; have HB := hyd hbw
       clear h0 h1 h2 h3 hbw c5 d5
       have hsb := st_bd (n := 2) p00 p01 p10 p11
       rw [← HS.out] at hsb
       have hnb := st_bd (n := 3) p00 p01 p10 p11
       have hst : st (dg 0 a * dg 0 b) (dg 0 a * dg 1 b) (dg 1 a * dg 0 b) (dg 1 a * dg 1 b) 3 = s + V 0 (dg 1 a * dg 0 b % 4294967296) (dg 1 a * dg 0 b / 4294967296) 0 := by
        rw [HS.out]; unfold st V; simp; try omega
       have HST := hyd hst; clear hst
       have HNB := hyd hnb; clear hnb
       go_wp2_with fail
       go_quiet (fail)
       have K0 := hyd (show (wr.drewN nq).heap[_]? = _ from H0.out); have K1 := hyd (show (wr.drewN nq).heap[_]? = _ from H1.out); have K2 := hyd (show (wr.drewN nq).heap[_]? = _ from H2.out); have K3 := hyd (show (wr.drewN nq).heap[_]? = _ from H3.out)
       have KB := hyd (below_drewN HB.out nq)
       have hsx : w.heap.size + 1 + 1 + 1 < (wr.drewN nq).heap.size := hsz
       clear H0 H1 H2 H3 HB hsz c0 c1 c2 c3 c4 d0 d1 d2 d3 d4 HM
       generalize wr.drewN nq = wx at *
       have hx0 : w.heap.size < wx.heap.size := by omega
       have hx1 : w.heap.size + 1 < wx.heap.size := by omega
       have hx2 : w.heap.size + 1 + 1 < wx.heap.size := by omega
       obtain ⟨e0, e1, e2, e3, e4⟩ := cells4 K3.out
       go_wp2_with (go_at_call 56; refine (plus_v (dg 0 s) (dg 1 s) (dg 2 s) (dg 3 s) 0 (dg 1 a * dg 0 b % 4294967296) (dg 1 a * dg 0 b / 4294967296) 0 s (V 0 (dg 1 a * dg 0 b % 4294967296) (dg 1 a * dg 0 b / 4294967296) 0) _ (dg_bd _ _) (dg_bd _ _) (dg_bd _ _) (dg_bd _ _) (by omega) (by omega) (by omega) (by omega) (V_dg hsb.1 hsb.2) rfl (by rw [← HST.out]; exact HNB.out.2)).mono ?_; rintro e w1 ⟨rfl, hw1⟩; rw [← HST.out]; have hbx : Below wx.heap.size wx w1 := Below.trans bly (hw1.mono (by simp only [World.size_alloc, World.size_setCell]; omega)); clear hw1; clear e0 e1 e2 e3 e4; have g3 := blk_below K3.out hbx hsx; obtain ⟨e0, e1, e2, e3, e4⟩ := cells4 g3; have G0 := hyd (blk_below K0.out hbx hx0); have G1 := hyd (blk_below K1.out hbx hx1); have G2 := hyd (blk_below K2.out hbx hx2); have G3 := hyd g3; have GB := hyd (KB.out.trans (hbx.mono (by omega))); have hsy := Nat.lt_of_lt_of_le hsx hbx.size; clear g3 hbx)
       refine ⟨⟨1, by omega, by go_num, ?_⟩, by first | (simp [intOf]; done) | (simp [intOf]; omega)⟩
       exact ⟨mfar G0.out (by omega) _ _ _ _, mfar G1.out (by omega) _ _ _ _, mfar G2.out (by omega) _ _ _ _, ⟨_, rfl, set4_blk G3.out _ _ _ _⟩, mbelow GB.out (by omega) _ _ _ _, by simp only [World.size_setCell]; exact hsy⟩
     · have hM : MulAt w n1 n2 a b 47 45 3 wr := HM.out
       obtain ⟨h0, h1, h2, ⟨s, hs, h3⟩, hbw, hsz⟩ := hM
       have HS : Hid (s = st (dg 0 a * dg 0 b) (dg 0 a * dg 1 b) (dg 1 a * dg 0 b) (dg 1 a * dg 1 b) 3) := hs
       clear hs
       obtain ⟨c0, c1, c2, c3, c4, c5⟩ := blk5 h0
       obtain ⟨d0, d1, d2, d3, d4, d5⟩ := blk5 h1
       have H0 := hyd h0; have H1 := hyd h1; have H2 := hyd h2; have H3 := hyd h3; have HB := hyd hbw
       clear h0 h1 h2 h3 hbw c5 d5
       have hsb := st_bd (n := 3) p00 p01 p10 p11
       rw [← HS.out] at hsb
       have hnb := st_bd (n := 4) p00 p01 p10 p11
       have hst : st (dg 0 a * dg 0 b) (dg 0 a * dg 1 b) (dg 1 a * dg 0 b) (dg 1 a * dg 1 b) 4 = s + V 0 0 (dg 1 a * dg 1 b % 4294967296) (dg 1 a * dg 1 b / 4294967296) := by
        rw [HS.out]; unfold st V; simp; try omega
       have HST := hyd hst; clear hst
       have HNB := hyd hnb; clear hnb
       go_wp2_with fail
       go_quiet (fail)
       have K0 := hyd (show (wr.drewN nq).heap[_]? = _ from H0.out); have K1 := hyd (show (wr.drewN nq).heap[_]? = _ from H1.out); have K2 := hyd (show (wr.drewN nq).heap[_]? = _ from H2.out); have K3 := hyd (show (wr.drewN nq).heap[_]? = _ from H3.out)
       have KB := hyd (below_drewN HB.out nq)
       have hsx : w.heap.size + 1 + 1 + 1 < (wr.drewN nq).heap.size := hsz
       clear H0 H1 H2 H3 HB hsz c0 c1 c2 c3 c4 d0 d1 d2 d3 d4 HM
       generalize wr.drewN nq = wx at *
       have hx0 : w.heap.size < wx.heap.size := by omega
       have hx1 : w.heap.size + 1 < wx.heap.size := by omega
       have hx2 : w.heap.size + 1 + 1 < wx.heap.size := by omega
       obtain ⟨e0, e1, e2, e3, e4⟩ := cells4 K3.out
       go_wp2_with (go_at_call 56; refine (plus_v (dg 0 s) (dg 1 s) (dg 2 s) (dg 3 s) 0 0 (dg 1 a * dg 1 b % 4294967296) (dg 1 a * dg 1 b / 4294967296) s (V 0 0 (dg 1 a * dg 1 b % 4294967296) (dg 1 a * dg 1 b / 4294967296)) _ (dg_bd _ _) (dg_bd _ _) (dg_bd _ _) (dg_bd _ _) (by omega) (by omega) (by omega) (by omega) (V_dg hsb.1 hsb.2) rfl (by rw [← HST.out]; exact HNB.out.2)).mono ?_; rintro e w1 ⟨rfl, hw1⟩; rw [← HST.out]; have hbx : Below wx.heap.size wx w1 := Below.trans bly (hw1.mono (by simp only [World.size_alloc, World.size_setCell]; omega)); clear hw1; clear e0 e1 e2 e3 e4; have g3 := blk_below K3.out hbx hsx; obtain ⟨e0, e1, e2, e3, e4⟩ := cells4 g3; have G0 := hyd (blk_below K0.out hbx hx0); have G1 := hyd (blk_below K1.out hbx hx1); have G2 := hyd (blk_below K2.out hbx hx2); have G3 := hyd g3; have GB := hyd (KB.out.trans (hbx.mono (by omega))); have hsy := Nat.lt_of_lt_of_le hsx hbx.size; clear g3 hbx)
       refine ⟨⟨2, by omega, by go_num, ?_⟩, by first | (simp [intOf]; done) | (simp [intOf]; omega)⟩
       exact ⟨mfar G0.out (by omega) _ _ _ _, mfar G1.out (by omega) _ _ _ _, mfar G2.out (by omega) _ _ _ _, ⟨_, rfl, set4_blk G3.out _ _ _ _⟩, mbelow GB.out (by omega) _ _ _ _, by simp only [World.size_setCell]; exact hsy⟩
     · go_wp2_with fail
       refine ⟨⟨2, by omega, by go_num, HM.out⟩, by first | (simp [intOf]; done) | (simp [intOf]; omega)⟩
  · have hM : MulAt w n1 n2 a b 47 45 4 wr := HM.out
    obtain ⟨h0, h1, h2, ⟨s, hs, h3⟩, hbw, hsz⟩ := hM
    rw [hall.out] at hs
    subst hs
    obtain ⟨c0, c1, c2, c3, c4, c5⟩ := blk5 h0
    obtain ⟨d0, d1, d2, d3, d4, d5⟩ := blk5 h1
    obtain ⟨f0, f1, f2, f3, f4, f5⟩ := blk5 h2
    obtain ⟨e0, e1, e2, e3, e4⟩ := cells4 h3
    have HB := hyd hbw
    clear h0 h1 h2 h3 hbw c5 d5 hall
    go_wp2_with fail
    refine bodyPost_ret (v := wd (n1 != n2) (a * b)) (by simp [results, Tryz.results158, go_sem, f0, f1, f2, f3, f4]; cases n1 <;> cases n2 <;> rfl) rfl ⟨rfl, ?_⟩
    have hbw := HB.out
    exact ((((hbw.setCell (p := ⟨w.heap.size + 1 + 1, 0, none⟩) (by show w.heap.size ≤ w.heap.size + 1 + 1; omega) _).setCell (p := ⟨w.heap.size + 1 + 1, 1, none⟩) (by show w.heap.size ≤ w.heap.size + 1 + 1; omega) _).setCell (p := ⟨w.heap.size + 1 + 1, 2, none⟩) (by show w.heap.size ≤ w.heap.size + 1 + 1; omega) _).setCell (p := ⟨w.heap.size + 1 + 1, 3, none⟩) (by show w.heap.size ≤ w.heap.size + 1 + 1; omega) _).setCell (p := ⟨w.heap.size + 1 + 1, 4, none⟩) (by show w.heap.size ≤ w.heap.size + 1 + 1; omega) _

end Go.Proofs.YtbjjgnaojoaoiaaGreat
