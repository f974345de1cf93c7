/- The walk of AccrueSplit. -/
import Derived.Test.YtpfcajekbkpabaaWRuns
import Derived.Test.YtpfcajekbkpabaaO
namespace Go.Proofs.Ytpfcajekbkpabaa
open Go.RowKit Go
set_option linter.unusedVariables false
set_option linter.unusedSimpArgs false

theorem add_zero_ {m : Int} (h : amt m = true) : addS 0 m = (m, 0) := by
  rw [addS, if_pos (by simp [h]; decide), Int.zero_add]; exact told_yes h
theorem simple_told (p b d : Int) : (simpleS p b d).2 = 0 → amt (simpleS p b d).1 = true := by
  unfold simpleS told
  split
  · split
    · intro _; assumption
    · intro h; simp at h
  · intro h; simp at h
theorem simple_first (p b d : Int) : (simpleS p b d).2 ≠ 0 → (simpleS p b d).1 = 0 := by
  unfold simpleS told
  split
  · split
    · intro h; simp at h
    · intro _; rfl
  · intro _; rfl
theorem at_begun {p b d n : Int} (h0 : 0 ≤ d) (h1 : d ≤ n) (h2 : n ≤ 3652058) : atS p b d 0 n = simpleS p b (n - d) := by
  rw [atS, if_pos (by simp [okD]; omega), if_neg (by omega)]
  by_cases h : (simpleS p b (n - d)).2 = 0
  · rw [if_pos h, add_zero_ (simple_told _ _ _ h), ← h]
  · rw [if_neg h, ← simple_first _ _ _ h]
theorem change_stay (s : St) (n : Int) : (s.change s.P n).1 = s := by
  unfold St.change; split
  · split
    · simp
    · rfl
  · rfl
theorem rate_stay (s : St) (n : Int) : (s.rate s.B n).1 = s := by
  unfold St.rate; split
  · split
    · simp
    · rfl
  · rfl

/-- The run stands as it was made, and so does the step's box. -/
def Stand (w : World) (g T b U : Nat) (s : St) (bx : Array Value) (wr : World) : Prop := RunIs wr g T s ∧ wr.heap[b]? = some (.cells bx U (0, 0)) ∧ (w.heap.size ≤ g ∧ g ≠ b) ∧ Below w.heap.size w wr
section
variable {w wr w' : World} {g T b U : Nat} {s : St} {bx : Array Value}
theorem Stand.below (h : Stand w g T b U s bx wr) (hb : Below wr.heap.size wr w') : Stand w g T b U s bx w' :=
  ⟨blk_below h.1 hb (blk_lt h.1), blk_below h.2.1 hb (blk_lt h.2.1), h.2.2.1, h.2.2.2.trans (hb.mono h.2.2.2.size)⟩
theorem Stand.grown (h : Stand w g T b U s bx wr) (h1 : RunIs w' g T s) (hg : wr.grownBy w' (some g)) : Stand w g T b U s bx w' :=
  ⟨h1, (hg.block b (blk_lt h.2.1) (fun e => h.2.2.1.2 (by injection e with e; exact e.symm))).trans h.2.1, h.2.2.1, h.2.2.2.grown hg h.2.2.2.size (fun k hk => by injection hk with hk; have := h.2.2.1.1; omega)⟩
theorem Stand.drewN (h : Stand w g T b U s bx wr) (n : Nat) : Stand w g T b U s bx (wr.drewN n) := ⟨h.1, h.2.1, h.2.2.1, below_drewN h.2.2.2 n⟩
end

set_option maxRecDepth 100000 in
set_option maxHeartbeats 1600000 in
theorem accrueSplit_walk (o d p b : Int) (A : Option Addr) (zs : List Int) (c : Nat) (w : World) (hl : Rd w w.heap.size 1 A zs.length (ints zs)) (hm : zs.length ≤ maxLen)
    (hw : ∀ z ∈ zs, -9223372036854775808 ≤ z ∧ z ≤ 9223372036854775807) :
    Calls Try.prog 6 #[.agg #[.int .i64 o, .int .i64 d, .int .i64 p, .int .i64 b], .slice A zs.length c] w fun e w' => e = .returned (.bool true) ∧ Below w.heap.size w w' := by
  unfold maxLen at hm
  go_enter Try.func6, Try.ntmps6
  go_wp2_with fail
  refine (awake_any _).mono ?_; rintro e w1 ⟨rfl, hw1⟩
  have hx1 : w1.heap[w.heap.size]? = some (.cells #[.int .i64 o, .int .i64 d, .int .i64 p, .int .i64 b] 28 (0, 0)) := blk_below (blk_new _ _ rfl) hw1 (blk_lt (blk_new _ _ rfl))
  obtain ⟨hc1, hf1⟩ := bcell hw1; have hz1 := hw1.size; (try simp only [World.size_alloc, World.size_setCell, World.size_drew, size_drewN, Nat.add_one_le_iff] at hz1); (try have hy1 : w.heap.size < w1.heap.size := by omega); (try have hx1 : w.heap.size + 1 < w1.heap.size := by omega); have HW1 := Lib.hid hw1; clear hw1
  go_wp2_with fail
  refine (new_any p b d _).mono ?_; rintro e w2 (⟨hp, hb, hd, ⟨g, rfl, hg, hr⟩, hw2⟩ | ⟨hno, rfl, hw2⟩)
  · have hx2 := blk_below hx1 hw2 (blk_lt hx1)
    obtain ⟨hc2, hf2⟩ := bcell hw2; have hz2 := hw2.size; (try simp only [World.size_alloc, World.size_setCell, World.size_drew, size_drewN, Nat.add_one_le_iff] at hz2); (try have hy2 : w.heap.size < w2.heap.size := by omega); (try have hx2 : w.heap.size + 1 < w2.heap.size := by omega); have HW2 := Lib.hid hw2; clear hw2
    have hS : Stand w g 61 w.heap.size 28 ⟨p, b, d, 0⟩ #[.int .i64 o, .int .i64 d, .int .i64 p, .int .i64 b] w2 := ⟨hr, hx2, ⟨by omega, by have := blk_lt hx1; omega⟩, (by repeat' (first | (with_reducible exact Below.refl _ _) | (with_reducible refine Below.alloc ?_ ?_ _) | (with_reducible refine below_drewN ?_ _) | (with_reducible refine Below.drew ?_) | (with_reducible refine Below.setCell ?_ ?_ _) | (with_reducible refine Below.trans ?_ (Below.mono HW0.out ?_)) | (with_reducible refine Below.trans ?_ (Below.mono HW1.out ?_)) | (with_reducible refine Below.trans ?_ (Below.mono HW2.out ?_)) | (with_reducible refine Below.trans ?_ (Below.mono HW3.out ?_)) | (with_reducible refine Below.trans ?_ (Below.mono HW4.out ?_)) | (with_reducible refine Below.trans ?_ (Below.mono HW5.out ?_)) | (with_reducible refine Below.trans ?_ (Below.mono HW6.out ?_)) | (with_reducible refine Below.trans ?_ (Below.mono HW7.out ?_)) | (with_reducible exact Nat.le_refl _) | omega | (simp only [World.size_alloc, World.size_setCell, World.size_drew, size_drewN]; omega) | (simp; done) | (simp; omega)))⟩
    have HS := Lib.hid hS
    have hd2 := okD_yes hd
    clear hS hr hp hb hd hg hc1 hf1 hc2 hf2 hx1 hx2
    obtain ⟨y0, y1, y2, y3, y4⟩ := cells4 HS.out.2.1
    go_wp2_with fail
    clear y0 y1 y2 y3 y4
    go_loopw [8, 9] (fun va i wr => ∃ (k : Nat) (a : Int), k ≤ zs.length ∧ k ≤ 100 ∧ i = .int .i64 k ∧ va = .int .i64 a ∧ d ≤ a ∧ a ≤ 3652058 ∧ Stand w g 61 w.heap.size 28 ⟨p, b, d, 0⟩ #[.int .i64 o, .int .i64 d, .int .i64 p, .int .i64 b] wr) (fun _ i _ => 100 - (intOf i).toNat)
    case atStart => exact ⟨0, d, by omega, by omega, rfl, rfl, by omega, by omega, HS.out⟩
    case round =>
      obtain ⟨k, a, hk, hk2, rfl, rfl, ha0, ha1, hB⟩ := hrel
      have HB := Lib.hid hB; clear hB HS
      by_cases hlt : k < zs.length
      · by_cases h100 : k < 100
        · obtain ⟨b', off, rfl, hb', hc⟩ := hl.2 (by omega)
          have HQ := Lib.hid ((hc k (by omega)).trans (ints_at zs k hlt))
          have x0 := (HB.out.2.2.2.cell (p := ⟨b', off + k, none⟩) hb').trans HQ.out
          have hz := hw _ (List.getElem_mem hlt)
          clear hc
          obtain ⟨z, hzz⟩ : ∃ z, zs[k] = z := ⟨_, rfl⟩
          rw [hzz] at x0 hz
          by_cases hneg : z < 0
          · go_wp2_with fail
            exact ⟨⟨k + 1, a, by omega, by omega, by go_num, rfl, ha0, ha1, HB.out⟩, by first | (simp [intOf]; done) | (simp [intOf]; omega)⟩
          · by_cases hbig : 3652058 - a < z
            · go_wp2_with fail
              exact ⟨⟨k + 1, a, by omega, by omega, by go_num, rfl, ha0, ha1, HB.out⟩, by first | (simp [intOf]; done) | (simp [intOf]; omega)⟩
            · have hs0 : d ≤ a + z := by omega
              have hs1 : a + z ≤ 3652058 := by omega
              have EA := Lib.hid (at_begun (p := p) (b := b) hd2.1 hs0 hs1)
              obtain ⟨m, e0, hs⟩ : ∃ m e0, simpleS p b (a + z - d) = (m, e0) := ⟨_, _, rfl⟩
              have HZ := Lib.hid hs; clear hs
              go_wp2_with fail
              refine (at_any g p b d 0 (a + z) _ HB.out.1 hd2).mono ?_; rintro e w3 ⟨rfl, hw3⟩
              have HB3 := Lib.hid (HB.out.below hw3); clear hw3 x0
              obtain ⟨y0, y1, y2, y3, y4⟩ := cells4 HB3.out.2.1
              go_wp2_with fail
              refine (change_any g ⟨p, b, d, 0⟩ p (a + z) _ HB3.out.1 hd2).mono ?_; rintro e w4 ⟨rfl, h1, h2⟩
              rw [show (St.change ⟨p, b, d, 0⟩ p (a + z)).1 = ⟨p, b, d, 0⟩ from change_stay ⟨p, b, d, 0⟩ _] at h1
              have HB4 := Lib.hid (HB3.out.grown h1 h2); clear h1 h2 y0 y1 y2 y3 y4
              obtain ⟨y0, y1, y2, y3, y4⟩ := cells4 HB4.out.2.1
              go_wp2_with fail
              refine (rate_any g ⟨p, b, d, 0⟩ b (a + z) _ HB4.out.1 hd2).mono ?_; rintro e w5 ⟨rfl, h1, h2⟩
              rw [show (St.rate ⟨p, b, d, 0⟩ b (a + z)).1 = ⟨p, b, d, 0⟩ from rate_stay ⟨p, b, d, 0⟩ _] at h1
              have HB5 := Lib.hid (HB4.out.grown h1 h2); clear h1 h2 y0 y1 y2 y3 y4
              go_wp2_with fail
              refine (at_any g p b d 0 (a + z) _ HB5.out.1 hd2).mono ?_; rintro e w6 ⟨rfl, hw6⟩
              have HB6 := Lib.hid (HB5.out.below hw6); clear hw6
              rw [EA.out, HZ.out]
              obtain ⟨y0, y1, y2, y3, y4⟩ := cells4 HB6.out.2.1
              go_wp2_with fail
              refine (simple_any p b (a + z - d) _).mono ?_; rintro e w7 ⟨rfl, hw7⟩
              have HB7 := Lib.hid (HB6.out.below hw7); clear hw7 y0 y1 y2 y3 y4
              rw [HZ.out]
              go_wp2_with fail
              exact ⟨⟨k + 1, a + z, by omega, by omega, by go_num, rfl, by omega, by omega, HB7.out⟩, by first | (simp [intOf]; done) | (simp [intOf]; omega)⟩
        · obtain ⟨y0, y1, y2, y3, y4⟩ := cells4 HB.out.2.1
          go_wp2_with fail
          go_quiet ((go_at_call 16; exact Calls.quiet_of_same (since_any g ⟨p, b, d, 0⟩ _ HB.out.1)))
          go_wp2_with fail
          go_ret
          exact ⟨by simp, (HB.out.drewN _).2.2.2⟩
      · obtain ⟨y0, y1, y2, y3, y4⟩ := cells4 HB.out.2.1
        go_wp2_with fail
        go_quiet ((go_at_call 16; exact Calls.quiet_of_same (since_any g ⟨p, b, d, 0⟩ _ HB.out.1)))
        go_wp2_with fail
        go_ret
        exact ⟨by simp, (HB.out.drewN _).2.2.2⟩
  · obtain ⟨hc2, hf2⟩ := bcell hw2; have hz2 := hw2.size; (try simp only [World.size_alloc, World.size_setCell, World.size_drew, size_drewN, Nat.add_one_le_iff] at hz2); (try have hy2 : w.heap.size < w2.heap.size := by omega); (try have hx2 : w.heap.size + 1 < w2.heap.size := by omega); have HW2 := Lib.hid hw2; clear hw2
    go_wp2_with fail
    go_ret
    exact ⟨rfl, (by repeat' (first | (with_reducible exact Below.refl _ _) | (with_reducible refine Below.alloc ?_ ?_ _) | (with_reducible refine below_drewN ?_ _) | (with_reducible refine Below.drew ?_) | (with_reducible refine Below.setCell ?_ ?_ _) | (with_reducible refine Below.trans ?_ (Below.mono HW0.out ?_)) | (with_reducible refine Below.trans ?_ (Below.mono HW1.out ?_)) | (with_reducible refine Below.trans ?_ (Below.mono HW2.out ?_)) | (with_reducible refine Below.trans ?_ (Below.mono HW3.out ?_)) | (with_reducible refine Below.trans ?_ (Below.mono HW4.out ?_)) | (with_reducible refine Below.trans ?_ (Below.mono HW5.out ?_)) | (with_reducible refine Below.trans ?_ (Below.mono HW6.out ?_)) | (with_reducible refine Below.trans ?_ (Below.mono HW7.out ?_)) | (with_reducible exact Nat.le_refl _) | omega | (simp only [World.size_alloc, World.size_setCell, World.size_drew, size_drewN]; omega) | (simp; done) | (simp; omega)))⟩
end Go.Proofs.Ytpfcajekbkpabaa
